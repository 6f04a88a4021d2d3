/- THE WALK of the reference's digest: a block's rounds. -/
import Derived.Test.YtbjlmodabiadfaaHRefSha2
import Derived.Deep.QuietTactic
import Derived.BigQuiet
namespace Go.Proofs.Ytbjlmodabiadfaa
open Go.RowKit

attribute [local go_sem ↓] Go.wp_at_zero Go.wp_at_succ
theorem rch_int {e f g : Nat} (he : e < 4294967296) (hf : f < 4294967296) (hg : g < 4294967296) : bits .or .i64 (bits .and .i64 (e : Int) (f : Int)) (bits .and .i64 (4294967295 - (e : Int)) (g : Int)) = (Sha.ch e f g : Nat) := by
  rw [show (4294967295 - (e : Int)) = ((4294967295 - e : Nat) : Int) by omega, i64_and_nat he hf, i64_and_nat (by omega) hg, i64_or_nat (Sha.lt_and hf) (Sha.lt_and hg), Sha.ch_ref he hf hg]
theorem rmaj_int {a b c : Nat} (ha : a < 4294967296) (hb : b < 4294967296) (hc : c < 4294967296) : bits .or .i64 (bits .or .i64 (bits .and .i64 (a : Int) (b : Int)) (bits .and .i64 (a : Int) (c : Int))) (bits .and .i64 (b : Int) (c : Int)) = (Sha.maj a b c : Nat) := by
  rw [i64_and_nat ha hb, i64_and_nat ha hc, i64_and_nat hb hc, i64_or_nat (Sha.lt_and hb) (Sha.lt_and hc), i64_or_nat (Sha.lt_or (Sha.lt_and hb) (Sha.lt_and hc)) (Sha.lt_and hc), Sha.maj_ref]
theorem rbig1_int {x : Nat} (hx : x < 4294967296) : bits .xor .i64 (bits .xor .i64 (Sha.ror x 6 : Nat) (Sha.ror x 11 : Nat)) (Sha.ror x 25 : Nat) = (Sha.big1 x : Nat) := by
  rw [i64_xor_nat (Sha.ror_lt hx) (Sha.ror_lt hx), i64_xor_nat (Sha.lt_xor (Sha.ror_lt hx) (Sha.ror_lt hx)) (Sha.ror_lt hx)]
  rfl
theorem rbig0_int {x : Nat} (hx : x < 4294967296) : bits .xor .i64 (bits .xor .i64 (Sha.ror x 2 : Nat) (Sha.ror x 13 : Nat)) (Sha.ror x 22 : Nat) = (Sha.big0 x : Nat) := by
  rw [i64_xor_nat (Sha.ror_lt hx) (Sha.ror_lt hx), i64_xor_nat (Sha.lt_xor (Sha.ror_lt hx) (Sha.ror_lt hx)) (Sha.ror_lt hx)]
  rfl
theorem quiet_of2 {P : Program} {f : FuncId} {args : Array Value} {w : World} {p n : Nat} {v : Value} (h : Calls P f args (w.drewN (p + n)) fun e w' => e = .returned v ∧ ∃ m, w' = (w.drewN (p + n)).drewN m) :
    Calls P f args (w.drewN (p + n)) fun e w'' => e = .returned v ∧ ∃ m, w'' = w.drewN (p + m) :=
  h.mono fun _ _ ⟨he, m, hm⟩ => ⟨he, n + m, by rw [hm, World.drewN_drewN, Nat.add_assoc]⟩
/-- t rounds are done. -/
def RStepRel (w : World) (s : Sha.St) (ws : List Nat) (s7 s8 : Value) (wr : World) : Prop :=
  ∃ (t g o c : Nat), t ≤ 64 ∧ s8 = .int .i64 t ∧ s7 = .slice (some ⟨g, o, none⟩) 8 c ∧ Row wr w.heap.size 1 (some ⟨g, o, none⟩) 8 c (iv (Sha.rounds s ws t).list) ∧ Below w.heap.size w wr
theorem add_next (s v : Sha.St) (k : Nat) (h : k < 8) : (Sha.add s v).list.take (k + 1) = (Sha.add s v).list.take k ++ [(s.list.getD k 0 + v.list.getD k 0) % 4294967296] := by
  match k, h with
  | 0, _ => rfl
  | 1, _ => rfl
  | 2, _ => rfl
  | 3, _ => rfl
  | 4, _ => rfl
  | 5, _ => rfl
  | 6, _ => rfl
  | 7, _ => rfl
theorem Row.congr_ {w : World} {base size n c : Nat} {A : Option Addr} {xs ys : List Value} (h : Row w base size A n c xs) (e : ys = xs) : Row w base size A n c ys := e ▸ h
/-- k sums are made. -/
def RFinRel (w : World) (s v : Sha.St) (s15 s16 : Value) (wr : World) : Prop :=
  ∃ (k : Nat) (A : Option Addr) (c : Nat), k ≤ 8 ∧ s16 = .int .i64 k ∧ s15 = .slice A k c ∧ Row wr w.heap.size 1 A k c (iv ((Sha.add s v).list.take k)) ∧ Below w.heap.size w wr
/-- What the four lists hold. -/
def At (w : World) (b o : Nat) (l : List Nat) : Prop := b < w.heap.size ∧ ∀ i, i < l.length → w.cell? ⟨b, o + i, none⟩ = some (.int .i64 (l.getD i 0 : Nat))
theorem At.below {w w' : World} {b o : Nat} {l : List Nat} (h : At w b o l) (hb : Below w.heap.size w w') : At w' b o l := ⟨Nat.lt_of_lt_of_le h.1 hb.size, fun i hi => (hb.cell (p := ⟨b, o + i, none⟩) h.1).trans (h.2 i hi)⟩
theorem At.reads {w : World} {b o : Nat} {l : List Nat} (h : At w b o l) : Reads w w.heap.size 1 (some ⟨b, o, none⟩) l.length (iv l) := by
  refine ⟨by rw [length_iv, Nat.mul_one], fun _ => ⟨b, o, rfl, h.1, fun j u hu => ?_⟩⟩
  have hj : j < l.length := by rw [← length_iv]; exact (List.getElem?_eq_some_iff.1 hu).1
  rw [iv_at l j hj] at hu
  rw [h.2 j hj, hu]
theorem Row.at_iv {w : World} {B g o c : Nat} {l : List Nat} {n : Nat} (h : Row w B 1 (some ⟨g, o, none⟩) n c (iv l)) : At w g o l :=
  ⟨(h.lt _ rfl).2, fun i hi => h.cell (iv_at l i hi)⟩
set_option maxRecDepth 100000 in
set_option maxHeartbeats 4000000 in
theorem rstep_any (hb ho hc wb wo wc kb ko kc : Nat) (s : Sha.St) (ws : List Nat) (w : World) (h1 : At w hb ho s.list) (_hhc : 8 ≤ hc) (h2 : At w wb wo ws) (hwl : ws.length = 64) (h3 : At w kb ko Sha.K) (hok : s.ok) (hwk : ∀ i, ws.getD i 0 < 4294967296) :
    Calls Try.prog 70 #[.slice (some ⟨hb, ho, none⟩) 8 hc, .slice (some ⟨wb, wo, none⟩) 64 wc, .slice (some ⟨kb, ko, none⟩) 64 kc] w (IntsOut (Sha.add s (Sha.rounds s ws 64)).list w) := by
  obtain ⟨i0, hi, hz0, hz1, hz2⟩ := info_parts int_info
  have H1 := Lib.hid h1
  have H2 := Lib.hid h2
  have H3 := Lib.hid h3
  clear h1 h2 h3
  go_enter Try.func70, Try.ntmps70
  go_wp2_with (at_builtin; refine wpList_append_row rfl (.tmp 17) (.tmp 18) rfl Try.underlying116 hi hz0 hz1 hz2 rfl (by decide) rfl (Row.lit w #[] 3 (n := 0) (base := w.heap.size) (size := 1) rfl (Nat.le_refl _) (by unfold maxLen; omega)) rfl ((H1.out.reads).alloc (Nat.le_refl _) _) (iv_one _) (by unfold maxLen; simp) (by simp) (by simp) ?_; intro A7 c7 w7 hrow7 hgr7 hat7)
  go_loopw [7, 8] (fun s7 s8 wr => RStepRel w s ws s7 s8 wr) (fun _ i _ => 64 - (intOf i).toNat)
  case atStart =>
    have hb7 : Below w.heap.size w w7 := ((Below.refl _ _).alloc (Nat.le_refl _) _).grown hgr7 (by simp) (fun k hk => by simp at hk; omega)
    obtain ⟨g, o, hA⟩ := row_some hrow7 (by omega)
    subst hA
    exact ⟨0, g, o, c7, by omega, rfl, rfl, by rw [show Sha.rounds s ws 0 = s from rfl]; simpa using hrow7, hb7⟩
  case round =>
    clear hrow7 hgr7 hat7
    obtain ⟨t, g, o, c1, ht, rfl, rfl, hrow, hbel⟩ := hrel
    have hsz := hbel.size
    have hgl := (hrow.lt _ rfl).2
    have hgB := (hrow.lt _ rfl).1
    have hc8 := hrow.2.1
    simp only at hgl hgB
    have HROW := Lib.hid hrow
    have HBEL := Lib.hid hbel
    by_cases hlt : t < 64
    · have hok2 := Sha.rounds_ok hok ws t
      have hrd : Sha.rounds s ws (t + 1) = Sha.rnd (Sha.rounds s ws t) (Sha.K.getD t 0) (ws.getD t 0) := rfl
      have hkt : wr.cell? ⟨kb, ko + t, none⟩ = some (.int .i64 (Sha.K.getD t 0 : Nat)) := (H3.out.below hbel).2 t (by rw [Sha.length_K]; exact hlt)
      have hwt : wr.cell? ⟨wb, wo + t, none⟩ = some (.int .i64 (ws.getD t 0 : Nat)) := (H2.out.below hbel).2 t (by omega)
      have hkl := Sha.K_lt t
      have hwl2 := hwk t
      have hv := hrow.at_iv
      generalize Sha.rounds s ws t = st at hv hok2 hrd
      generalize Sha.K.getD t 0 = kt at hkt hkl hrd
      generalize ws.getD t 0 = wt at hwt hwl2 hrd
      obtain ⟨a, b, cc, d, e, f, gg, h⟩ := st
      obtain ⟨ha, hb', hc', hd, he, hf, hg, hh⟩ := hok2
      simp only at ha hb' hc' hd he hf hg hh
      have v0 : wr.cell? ⟨g, o, none⟩ = some (.int .i64 (a : Int)) := hv.2 0 (by simp [Sha.St.list])
      have v1 : wr.cell? ⟨g, o + 1, none⟩ = some (.int .i64 (b : Int)) := hv.2 1 (by simp [Sha.St.list])
      have v2 : wr.cell? ⟨g, o + 2, none⟩ = some (.int .i64 (cc : Int)) := hv.2 2 (by simp [Sha.St.list])
      have v3 : wr.cell? ⟨g, o + 3, none⟩ = some (.int .i64 (d : Int)) := hv.2 3 (by simp [Sha.St.list])
      have v4 : wr.cell? ⟨g, o + 4, none⟩ = some (.int .i64 (e : Int)) := hv.2 4 (by simp [Sha.St.list])
      have v5 : wr.cell? ⟨g, o + 5, none⟩ = some (.int .i64 (f : Int)) := hv.2 5 (by simp [Sha.St.list])
      have v6 : wr.cell? ⟨g, o + 6, none⟩ = some (.int .i64 (gg : Int)) := hv.2 6 (by simp [Sha.St.list])
      have v7 : wr.cell? ⟨g, o + 7, none⟩ = some (.int .i64 (h : Int)) := hv.2 7 (by simp [Sha.St.list])
      have hC := rch_int he hf hg
      have hE1 := rbig1_int he
      have hE0 := rbig0_int ha
      have hM := rmaj_int ha hb' hc'
      have lC := Sha.ch_lt (e := e) hf hg
      have lE1 := Sha.big1_lt he
      have lE0 := Sha.big0_lt ha
      have lM := Sha.maj_lt (a := a) hb' hc'
      have hrnd : Sha.rounds s ws (t + 1) = ⟨(h + Sha.big1 e + Sha.ch e f gg + kt + wt + (Sha.big0 a + Sha.maj a b cc)) % 4294967296, a, b, cc, (d + (h + Sha.big1 e + Sha.ch e f gg + kt + wt)) % 4294967296, e, f, gg⟩ := by
        rw [hrd]
        simp only [Sha.rnd, Sha.rx, Sha.ry]
        congr 1 <;> omega
      have HRND := Lib.hid hrnd
      clear hrnd hrd hv
      generalize Sha.ch e f gg = C at hC lC HRND
      generalize Sha.big1 e = E1 at hE1 lE1 HRND
      generalize Sha.big0 a = E0 at hE0 lE0 HRND
      generalize Sha.maj a b cc = M at hM lM HRND
      have k1 : IntKind.i64.wrap (4294967295 - (e : Int)) = 4294967295 - e := IntWalk.i64_in _ (by omega)
      have k2 : IntKind.i64.wrap ((h : Int) + E1) = (h : Int) + E1 := IntWalk.i64_in _ (by omega)
      have k3 : IntKind.i64.wrap ((h : Int) + E1 + C) = (h : Int) + E1 + C := IntWalk.i64_in _ (by omega)
      have k4 : IntKind.i64.wrap ((h : Int) + E1 + C + kt) = (h : Int) + E1 + C + kt := IntWalk.i64_in _ (by omega)
      have k5 : IntKind.i64.wrap ((h : Int) + E1 + C + kt + wt) = (h : Int) + E1 + C + kt + wt := IntWalk.i64_in _ (by omega)
      have k6 : IntKind.i64.wrap ((E0 : Int) + M) = (E0 : Int) + M := IntWalk.i64_in _ (by omega)
      have k7 : IntKind.i64.wrap ((h : Int) + E1 + C + kt + wt + ((E0 : Int) + M)) = (h : Int) + E1 + C + kt + wt + ((E0 : Int) + M) := IntWalk.i64_in _ (by omega)
      have k8 : ((h : Int) + E1 + C + kt + wt + ((E0 : Int) + M)).tmod 4294967296 = ((h : Int) + E1 + C + kt + wt + ((E0 : Int) + M)) % 4294967296 := Int.tmod_eq_emod_of_nonneg (by omega)
      have k9 : IntKind.i64.wrap ((d : Int) + ((h : Int) + E1 + C + kt + wt)) = (d : Int) + ((h : Int) + E1 + C + kt + wt) := IntWalk.i64_in _ (by omega)
      have k10 : ((d : Int) + ((h : Int) + E1 + C + kt + wt)).tmod 4294967296 = ((d : Int) + ((h : Int) + E1 + C + kt + wt)) % 4294967296 := Int.tmod_eq_emod_of_nonneg (by omega)
      have g64 : (t : Int) < 64 := by omega
      clear hrow hbel lC lE1 lE0 lM hkl hwl2 hb' hc' hd hf hg hh
      go_wp2_with fail
      go_quiet (fail)
      go_wp2_with fail
      go_quiet (exact quiet_of2 (rright_any e _ _ he (by decide) (by decide)))
      go_wp2_with fail
      go_quiet (fail)
      go_wp2_with fail
      refine (rright_any a 2 _ ha (by decide) (by decide)).mono ?_
      rintro e' w5 ⟨rfl, k5', rfl⟩
      go_wp2_with fail
      refine (rright_any a 13 _ ha (by decide) (by decide)).mono ?_
      rintro e' w5 ⟨rfl, k6', rfl⟩
      go_wp2_with fail
      refine (rright_any a 22 _ ha (by decide) (by decide)).mono ?_
      rintro e' w5 ⟨rfl, k7', rfl⟩
      go_wp2_with fail
      refine name_world fun w5 q1 q2 q3 q4 => ?_
      have B5 := Lib.hid (below_heap HBEL.out q1 q2 q3 q4)
      have hs5 : w.heap.size ≤ w5.heap.size := B5.out.size
      have cw : ∀ i, w5.cell? ⟨g, i, none⟩ = wr.cell? ⟨g, i, none⟩ := fun i => World.cell?_of_block (a := ⟨g, i, none⟩) (by rw [q1]; rfl)
      have d1 := (cw _).trans v1
      have d2 := (cw _).trans v2
      have d3 := (cw _).trans v3
      have d5 := (cw _).trans v5
      have d6 := (cw _).trans v6
      clear v0 v1 v2 v3 v4 v5 v6 v7 hkt hwt cw q1 q2 q3 q4 hC hE1 hE0 hM k1 k2 k3 k4 k5 k6
      go_region_held3 (fun w' => w'.cell? ⟨g, o + 1, none⟩ = some (.int .i64 (b : Int)) ∧ w'.cell? ⟨g, o + 2, none⟩ = some (.int .i64 (cc : Int)) ∧ w'.cell? ⟨g, o + 3, none⟩ = some (.int .i64 (d : Int)) ∧ w'.cell? ⟨g, o + 5, none⟩ = some (.int .i64 (f : Int)) ∧ w'.cell? ⟨g, o + 6, none⟩ = some (.int .i64 (gg : Int)))
        (go_keep) (fail)
      go_wp2_with fail
      go_roundw
      case rel =>
        refine ⟨t + 1, w5.heap.size, 0, 8, by omega, by go_num, rfl, ?_, (B5.out.alloc hs5 _).drew⟩
        rw [HRND.out]
        refine (Row.drew (Row.lit (n := 8) w5 _ _ rfl hs5 (by unfold maxLen; omega))).congr_ ?_
        simp [iv, Sha.St.list]
      case measure => simp [intOf]; omega
    · obtain rfl : t = 64 := by omega
      have hfin := hrow.at_iv
      obtain ⟨vv, hvv⟩ : ∃ vv, Sha.rounds s ws 64 = vv := ⟨_, rfl⟩
      rw [hvv] at hfin
      have HFIN := Lib.hid hfin
      have hvl : ∀ k, vv.list.getD k 0 < 4294967296 := by rw [← hvv]; exact Sha.list_lt (Sha.rounds_ok hok ws 64)
      have HS := Lib.hid (H1.out.below hbel)
      have HVV := Lib.hid hvv
      clear hrow hbel hfin hvv HROW H2 H3
      go_wp2_with fail
      go_loopw [15, 16] (fun s15 s16 wx => RFinRel wr s vv s15 s16 wx) (fun _ i _ => 8 - (intOf i).toNat)
      case atStart => exact ⟨0, none, 0, by omega, rfl, rfl, Row.nil_ _ _ _, Below.refl _ _⟩
      case round =>
        obtain ⟨k, A, c2, hk, rfl, rfl, hrow, hbel⟩ := hrel
        have hsz2 := hbel.size
        have HROW := Lib.hid hrow
        have HBEL2 := Lib.hid hbel
        by_cases hlk : k < 8
        · have d0 := (HS.out.below hbel).2 k (by simpa [Sha.St.list] using hlk)
          have d1 := (HFIN.out.below hbel).2 k (by simpa [Sha.St.list] using hlk)
          have l0 := Sha.list_lt hok k
          have l1 := hvl k
          have hn := add_next s vv k hlk
          generalize s.list.getD k 0 = x at d0 l0 hn
          generalize vv.list.getD k 0 = y at d1 l1 hn
          have HN := Lib.hid hn
          have hhb := HS.out.1
          have hgl2 := HFIN.out.1
          have k1 : IntKind.i64.wrap ((x : Int) + y) = (x : Int) + y := IntWalk.i64_in _ (by omega)
          have k2 : ((x : Int) + y).tmod 4294967296 = ((x : Int) + y) % 4294967296 := Int.tmod_eq_emod_of_nonneg (by omega)
          have k8 : (k : Int) < 8 := by omega
          have k9 : (0 : Int) ≤ (k : Int) := by omega
          clear hrow hbel hn
          go_wp2_with fail
          go_region_held3 (fun w' => w'.cell? ⟨hb, ho + k, none⟩ = some (.int .i64 (x : Int)) ∧ w'.cell? ⟨g, o + k, none⟩ = some (.int .i64 (y : Int)))
            (go_keep)
            ((refine step_append_row (by rfl) (.tmp 124) (.tmp 135) (by rfl) Try.underlying116 hi hz0 hz1 hz2 (by rfl) (by decide) (by rfl) (HROW.out.alloc _).drew (by rfl) (Reads.lit _ _ _ (n := 1) rfl).drew (by intro v hv; simp at hv; rcases hv with rfl; rfl) (by unfold maxLen; omega) (by omega) (by simp; omega) ?_; intro A2 c3 w2 hrow2 hgr2 hat2; have k0 := far_cell hhb hsz2 HROW.out hgr2 d0; have k1 := far_cell hgl2 hsz2 HROW.out hgr2 d1; have HB2 := Lib.hid ((HBEL2.out.alloc hsz2 _).drew.grown hgr2 (by simp; omega) HROW.out.blocks); have HR2 := Lib.hid hrow2; clear hrow2 hgr2 hat2))
          go_wp2_with fail
          go_roundw
          case rel =>
            refine ⟨k + 1, A2, c3, by omega, by go_num, rfl, ?_, HB2.out⟩
            rw [HN.out, iv_append]
            refine HR2.out.congr_ ?_
            simp [iv]
          case measure => simp [intOf]; omega
        · obtain rfl : k = 8 := by omega
          have HFB := Lib.hid (HBEL.out.trans (HBEL2.out.mono hsz))
          clear hrow hbel
          go_wp2_with fail
          go_ret
          refine ⟨A, c2, rfl, ?_, HFB.out⟩
          rw [HVV.out]
          exact HROW.out.mono hsz
end Go.Proofs.Ytbjlmodabiadfaa
