/- THE WALK of the law AuditPlays. -/
import Derived.Test.YtbjlmodabiadfaaHATells
import Derived.Test.YtbjlmodabiadfaaHRCopP
namespace Go.Proofs.Ytbjlmodabiadfaa
open Go.RowKit

/-- Behind j texts. -/
def PlayRel (w : World) (cb xb : Nat) (key : List UInt8) (len : Nat) (s23 : Value) (wr : World) : Prop :=
  ∃ (j : Nat) (x : Ch) (X Z : Nat → Prop), j ≤ len ∧ j ≤ 30 ∧ s23 = .int .i64 j ∧ AW w cb xb X Z x x wr ∧ Good key x
/-- A record listed in a new block. -/
theorem lit_recS {w : World} {N : Nat} {a : Rec} {rA : Option Addr} {rc : Nat} {T : TypeId} (hr : Row w N 1 rA a.tag.length rc (bv a.tag)) (hl : a.tag.length ≤ 140737488351232) :
    RowRecS (w.alloc (.cells #[.int .i64 a.seq, .string a.text, .slice rA a.tag.length rc] T)) (fun k => k = w.heap.size ∨ ∃ ad, rA = some ad ∧ k = ad.block) (some ⟨w.heap.size, 0, none⟩) 1 1 [a] := by
  have h3 := Row.lit (base := 0) (size := 3) (n := 1) w #[.int .i64 a.seq, .string a.text, .slice rA a.tag.length rc] T rfl (Nat.zero_le _) (by unfold maxLen; omega)
  refine ⟨[.slice rA a.tag.length rc], rfl, rfl, h3, fun i hi hi' => ?_, List.pairwise_singleton _ _, fun ad e => by cases e; exact .inl rfl⟩
  obtain rfl : i = 0 := by simpa using hi
  refine ⟨⟨rA, rc, rfl, (hr.alloc _).mono (Nat.zero_le _), fun ad e ad' e' => by cases e'; have := (hr.lt ad e).2; simp only; omega, hl⟩, fun ad m d e => ?_⟩
  simp only [List.getElem_cons_zero, Value.slice.injEq] at e
  exact .inr ⟨ad, e.1, rfl⟩
/-- What audit's Restore hands back, in values. -/
def RestD (key : List UInt8) (base : Int) (ahead : List UInt8) (L : List Rec) (w : World) (vc : Value) (er : Int) (w' : World) : Prop :=
  (RestOk key base ahead L ∧ ∃ cb X, vc = .pointer (some ⟨cb, 0, none⟩) ∧ er = 0 ∧ w.heap.size ≤ cb ∧ ChainAt w' cb X ⟨key, base, ahead, L⟩ ∧ (∀ k, X k → w.heap.size ≤ k)) ∨
  (¬ RestOk key base ahead L ∧ vc = .pointer none ∧ er = 22)
theorem RestOut.vals {key : List UInt8} {base : Int} {ahead : List UInt8} {L : List Rec} {w w' : World} {e : Ending} (h : RestOut key base ahead L w e w') : ∃ vc er, e = .returned (.tuple #[vc, .int .i64 er]) ∧ RestD key base ahead L w vc er w' ∧ Below w.heap.size w w' := by
  rcases h with ⟨h1, cb, X, rfl, h2, h3, h4, h5⟩ | ⟨h1, rfl, h2⟩
  · exact ⟨_, _, rfl, .inl ⟨h1, cb, X, rfl, rfl, h2, h3, h4⟩, h5⟩
  · exact ⟨_, _, rfl, .inr ⟨h1, rfl, rfl⟩, h2⟩
/-- What the reference's Restore hands back, in values. -/
def RRestD (key : List UInt8) (base : Int) (ahead : List UInt8) (L : List Rec) (w : World) (vc : Value) (er : Int) (w' : World) : Prop :=
  (RestOk key base ahead L ∧ ∃ xb, vc = .pointer (some ⟨xb, 0, none⟩) ∧ er = 0 ∧ w.heap.size ≤ xb ∧ RChainAt w' xb (w.heap.size ≤ ·) ⟨key, base, ahead, L⟩) ∨
  (¬ RestOk key base ahead L ∧ vc = .pointer none ∧ er = 22)
theorem RRestOut.vals {key : List UInt8} {base : Int} {ahead : List UInt8} {L : List Rec} {w w' : World} {e : Ending} (h : RRestOut key base ahead L w e w') : ∃ vc er, e = .returned (.tuple #[vc, .int .i64 er]) ∧ RRestD key base ahead L w vc er w' ∧ Below w.heap.size w w' := by
  rcases h with ⟨h1, xb, rfl, h2, h3, h4⟩ | ⟨h1, rfl, h2⟩
  · exact ⟨_, _, rfl, .inl ⟨h1, xb, rfl, rfl, h2, h3⟩, h4⟩
  · exact ⟨_, _, rfl, .inr ⟨h1, rfl, rfl⟩, h2⟩
set_option maxRecDepth 100000 in
set_option maxHeartbeats 16000000 in
theorem AuditPlays_walk (A : Option Addr) (n c : Nat) (key : List UInt8) (base : Int) (A2 : Option Addr) (n2 c2 : Nat) (ahead : List UInt8) (LA : Option Addr) (ln lc : Nat) (L : List Rec) (fresh : Bool) (TA : Option Addr) (tn tc : Nat) (texts : List ByteArray) (w : World)
    (h1 : Reads w w.heap.size 1 A n (bv key)) (h1c : n ≤ c ∧ c ≤ 140737488351232) (hbw : (Lit.int .i64 base).wf = true) (h2 : Reads w w.heap.size 1 A2 n2 (bv ahead)) (h2c : n2 ≤ c2 ∧ c2 ≤ 140737488351232)
    (hl : L.length = ln) (hL : Recs w (· < w.heap.size) LA L) (hLc : ln ≤ lc ∧ lc ≤ 140737488351232 ∧ ∀ r ∈ L, -9223372036854775808 ≤ r.seq ∧ r.seq ≤ 9223372036854775807 ∧ r.text.size ≤ 140737488351232)
    (ht : texts.length = tn) (hT : Strs w (· < w.heap.size) TA texts) (hTc : tn ≤ tc ∧ tc ≤ 140737488351232 ∧ ∀ s ∈ texts, s.size ≤ 140737488351232) :
    Calls Try.prog 14 #[.slice A n c, .int .i64 base, .slice A2 n2 c2, .slice LA ln lc, .bool fresh, .slice TA tn tc] w fun e w' => e = .returned (.bool true) ∧ Below w.heap.size w w' := by
  subst hl
  subst ht
  have hb : -9223372036854775808 ≤ base ∧ base ≤ 9223372036854775807 := by
    have := hbw
    simp [Lit.wf, IntKind.min, IntKind.max, IntKind.bits, IntKind.signed] at this
    omega
  obtain ⟨hba1, hba2⟩ := hb
  have hsm := Lib.hid (small19_any w)
  have hfew := Lib.hid (fun w' (h : Below w.heap.size w w') => few_any A n c A2 n2 c2 LA L.length lc L _ w' rfl (hL.keep fun k hk => h.block k hk))
  have H1 := Lib.hid h1
  have H2 := Lib.hid h2
  have HL := Lib.hid hL
  have HT := Lib.hid hT
  have HBD := Lib.hid hLc.2.2
  have HTS := Lib.hid hTc.2.2
  have htl : texts.length ≤ 140737488351232 := Nat.le_trans hTc.1 hTc.2.1
  have hn : n ≤ 140737488351232 := Nat.le_trans h1c.1 h1c.2
  have hn2c := h2c.1
  have hn2 : n2 ≤ 140737488351232 := Nat.le_trans h2c.1 h2c.2
  clear h1 h2 hL hbw hT hTc hLc h1c h2c
  go_enter Try.func14, Try.ntmps14
  go_wp2_with fail
  refine hsm.out.mono ?_
  rintro e w1 ⟨rfl, hb1⟩
  have HB1 := Lib.hid hb1
  have HF := Lib.hid (hfew.out w1 hb1)
  clear hb1 hsm hfew
  go_wp2_with fail
  refine HF.out.mono ?_
  rintro e w1 ⟨b, rfl, rfl, hin⟩
  have HIN := Lib.hid hin
  clear hin HF
  cases b
  · go_wp2_with fail
    go_ret
    exact ⟨rfl, HB1.out⟩
  · obtain ⟨g1, g2, g3, g4⟩ := HIN.out rfl
    have hal2 : ahead.length = n2 := by have := H2.out.1; rw [length_bv] at this; omega
    have hkl : key.length = n := by have := H1.out.1; rw [length_bv] at this; omega
    have hok : RecsOk L := fun r hr => ⟨(HBD.out r hr).1, (HBD.out r hr).2.1, (g4 r hr).1, (g4 r hr).2⟩
    have hb1 := HB1.out
    have hs1 := hb1.size
    have HC := Lib.hid (rCopiedP_any LA lc L _ w1 (HL.out.keep fun k hk => hb1.block k hk) (fun k hk => Nat.lt_of_lt_of_le hk hs1) (by omega))
    have HOK := Lib.hid hok
    have HAL := Lib.hid hal2
    have HKL := Lib.hid hkl
    clear hb1 hok hal2 hkl g4 HIN
    go_wp2_with fail
    refine HC.out.mono ?_
    rintro e w2 ⟨iA, ic, rfl, hrow, hb2⟩
    have hs2 := hb2.size
    have hbw2 := HB1.out.trans (hb2.mono hs1)
    have HC := Lib.hid (Lent_any A n c w.heap.size key w2 (H1.out.below hbw2) hbw2.size hn)
    have HB2 := Lib.hid hbw2
    have HS := Lib.hid hrow.inS
    have HRC := Lib.hid hrow.rec
    clear hrow hb2 hbw2
    go_wp2_with fail
    refine HC.out.mono ?_
    rintro e w3 ⟨rfl, hk3, hb3⟩
    have hs3 := hb3.size
    have hkr := hk3.take (k := n) (by omega)
    rw [Nat.mul_one, bv_append, List.take_append_of_le_length (by rw [length_bv, HKL.out]; exact Nat.le_refl _), List.take_of_length_le (by rw [length_bv, HKL.out]; exact Nat.le_refl _)] at hkr
    have hbw3 := HB2.out.trans (hb3.mono HB2.out.size)
    have hin3 : Recs w3 (· < w3.heap.size) iA L := (HRC.out.all.keep fun k hk => hb3.block k hk).mono fun k hk => Nat.lt_of_lt_of_le hk hs3
    have hbk2 : w2.heap.size < w3.heap.size := (hk3.lt _ rfl).2
    have HC := Lib.hid (Restore_any (some ⟨w2.heap.size, 0, none⟩) n (n + 1) key base A2 n2 c2 ahead iA ic L w3 hkr.reads hn hba1 hba2 (Part.of_reads (H2.out.below hbw3) hn2c hn2 fun k hk => Nat.lt_of_lt_of_le hk hbw3.size) (by have := HAL.out; omega) hin3 (by omega) HOK.out)
    have HB3 := Lib.hid hbw3
    have HS3 := Lib.hid (HS.out.new hb3)
    have HK3 := Lib.hid hk3
    have HIN3 := Lib.hid hin3
    clear hb3 hkr hbw3 hin3 hk3 HS HRC
    go_wp2_with fail
    refine HC.out.mono ?_
    intro e w4 h
    obtain ⟨vc, ec, rfl, hD, hb4⟩ := h.vals
    have hs4 := hb4.size
    have hbw4 := HB3.out.trans (hb4.mono HB3.out.size)
    have HC := Lib.hid (rSame_yes iA ic LA lc L _ _ w4 (HIN3.out.keep fun k hk => hb4.block k hk) (HL.out.keep fun k hk => hbw4.block k hk) (fun k hk => Nat.lt_of_lt_of_le hk hs4) (fun k hk => Nat.lt_of_lt_of_le hk hbw4.size) (by omega))
    have HB4 := Lib.hid hbw4
    have HS4 := Lib.hid (HS3.out.new hb4)
    have HK4 := Lib.hid (HK3.out.below hb4 (Nat.le_refl _))
    have HD := Lib.hid hD
    clear h hb4 hbw4 hD HS3 HK3 HIN3
    go_wp2_with fail
    refine HC.out.mono ?_
    rintro e w5 ⟨rfl, q, rfl⟩
    have HC := Lib.hid (spoil_any iA L.length ic _ L (w4.drewN q) (HS4.out.new (below_drewN (Below.refl _ _) q)) (by omega))
    clear HS4
    go_wp2_with fail
    refine HC.out.mono ?_
    rintro e w6 ⟨rfl, hg6⟩
    have g46 : Grew (fun k => w1.heap.size ≤ k ∧ k < w2.heap.size) w4 w6 := ((Grew.refl _ w4).drewN q).trans hg6
    have hs6 := g46.size
    have hk6 := HK4.out.grew g46 (fun ad e h => by cases e; exact absurd h.2 (Nat.lt_irrefl _))
    have hbw6 := HB4.out.trans (g46.below HB4.out.size fun k _ hk => by have := HB1.out.size; omega)
    have HC := Lib.hid (Kept_yes A n c _ _ w2.heap.size key w6 hk6.reads (H1.out.below hbw6) hn)
    have HK6 := Lib.hid hk6
    have HB6 := Lib.hid hbw6
    have G46 := Lib.hid g46
    clear hg6 g46 hk6 hbw6 HK4
    go_wp2_with fail
    refine HC.out.mono ?_
    rintro e w' ⟨rfl, rfl⟩
    have hkt := HK6.out.take (k := n) (by omega)
    have hlit : OwnedRows (w6.alloc (.cells ([((some ⟨w2.heap.size, 0, none⟩, n, n + 1) : Sl)].map Sl.val).toArray 22)) w6.heap.size [(some ⟨w2.heap.size, 0, none⟩, n, n + 1)] :=
      owned_lit (by intro y hy; simp at hy; rcases hy with rfl; exact ⟨_, _, hkt⟩) (by simp)
    have HC := Lib.hid (Owned_any _ 1 _ _ hlit (by simp))
    clear hkt hlit HK6
    go_wp2_with fail
    refine HC.out.mono ?_
    rintro e w8 ⟨rfl, ho⟩
    have g68 := owned_grew (S := (· = w2.heap.size)) ho (by intro y hy a ea; simp at hy; rcases hy with rfl; cases ea; rfl)
    have g48 : Grew (· < w3.heap.size) w4 w8 := (G46.out.mono fun k _ hk => by omega).trans (g68.mono fun k _ hk => by omega)
    have hbw8 : Below w.heap.size w w8 := HB6.out.trans (g68.below HB6.out.size fun k _ e => by have := HB2.out.size; omega)
    have hs8 := g48.size
    have HC := Lib.hid (rRestore_any A n c key base A2 n2 c2 ahead LA lc L w8 ((H1.out.below hbw8).more hbw8.size) (by omega) hba1 hba2 (Part.of_reads (H2.out.below hbw8) hn2c hn2 fun k hk => Nat.lt_of_lt_of_le hk hbw8.size) (by have := HAL.out; omega) ((HL.out.keep fun k hk => hbw8.block k hk).mono fun k hk => Nat.lt_of_lt_of_le hk hbw8.size) (by omega) HOK.out)
    have HB8 := Lib.hid hbw8
    have G48 := Lib.hid g48
    clear ho g68 g48 hbw8 G46
    go_wp2_with fail
    refine HC.out.mono ?_
    intro e w9 h
    obtain ⟨vx, ef, rfl, hE, hb9⟩ := h.vals
    have hs9 := hb9.size
    have hbw9 := HB8.out.trans (hb9.mono HB8.out.size)
    have hsw9 := hbw9.size
    have g49 : Grew (· < w3.heap.size) w4 w9 := G48.out.trans (Grew.of_new hb9)
    have HB9 := Lib.hid hbw9
    have G49 := Lib.hid g49
    have HE := Lib.hid hE
    have hkey : key.length ≤ 256 := by have := HKL.out; omega
    clear h hb9 hbw9 g49 hE HC G48 HB8 HB6 HB4 HB3 HB2 HB1 H2 HL HAL HOK HBD HKL
    have HNC := Lib.hid (aNew_any A n c w.heap.size key w9 (H1.out.below HB9.out) hsw9 hn)
    have HNR := Lib.hid (fun (w' : World) (hb : Below w9.heap.size w9 w') => rNew19_any A n c w.heap.size key w' (H1.out.below (HB9.out.trans (hb.mono hsw9))) (Nat.le_trans hsw9 hb.size) hn)
    rcases HD.out with ⟨hro, cb, X, rfl, rfl, hcb, hch, hX⟩ | ⟨hro, rfl, rfl⟩
    · rcases HE.out with ⟨_, xb, rfl, rfl, hxb, hrc⟩ | ⟨hno, _⟩
      · have HGD := Lib.hid (hro.good hba2)
        have hcl := hch.lt
        have HAW := Lib.hid (AW.mk (w := w) (wr := w9) (N := w8.heap.size) (hch.tight.grew G49.out (fun h => by omega) fun k hk _ h => by have := hX k hk.1; omega) hrc (fun k hk => by have := hX k hk.1; have := hk.2; omega) (fun k hk => hk) ⟨by omega, by omega⟩ hxb hs9 HB9.out)
        clear hch hrc hX HD HE hro
        cases fresh
        · clear HNC HNR hcb hxb hcl
          go_wp2_with fail
          clear HB9 G49 H1
          go_loopw [23] (fun s23 wr => PlayRel w cb xb key texts.length s23 wr) (fun i _ => 30 - (intOf i).toNat)
          case atStart => exact ⟨0, _, _, _, Nat.zero_le _, Nat.zero_le _, rfl, HAW.out, HGD.out⟩
          case round =>
            clear HAW HGD
            obtain ⟨j, x, X, Z, hj1, hj2, rfl, haw, hgd⟩ := hrel
            have HAW := Lib.hid haw
            have HGD := Lib.hid hgd
            have hsz := haw.2.2.2.2.2.2.2.size
            clear haw hgd
            by_cases hin : j < texts.length ∧ j < 30
            · obtain ⟨hlt, h30⟩ := hin
              obtain ⟨sb, so, hTA, hTR, hTc⟩ := HT.out (by omega)
              have cw0 := hTc j hlt
              have hsz0 := HTS.out texts[j] (List.getElem_mem hlt)
              generalize texts[j] = s at cw0 hsz0
              have c0 := (HAW.out.2.2.2.2.2.2.2.cell (p := ⟨sb, so + j, none⟩) hTR).trans cw0
              have HCW0 := Lib.hid cw0
              clear hTc cw0
              subst hTA
              have i1 : (0 : Int) ≤ (j : Int) := by omega
              have i2 : (j : Int) < (texts.length : Int) := by omega
              have HC := Lib.hid (Ans_any cb X key x s wr HAW.out.1 HGD.out (by omega) hsz0)
              obtain ⟨a, ha⟩ : ∃ a, x.ans s = a := ⟨_, rfl⟩
              obtain ⟨er, her⟩ : ∃ er, x.err s = er := ⟨_, rfl⟩
              obtain ⟨x3, hx3⟩ : ∃ x3, x.put s = x3 := ⟨_, rfl⟩
              have HA := Lib.hid ha
              have HER := Lib.hid her
              have HX3 := Lib.hid hx3
              have hgd3 := (HGD.out.put s).1
              rw [hx3] at hgd3
              have HGD3 := Lib.hid hgd3
              clear ha her hx3 hgd3
              go_wp2_with fail
              refine HC.out.mono ?_
              intro e v1 h
              obtain ⟨rA, rc, X1, he, hrow, hch, hg, hX1, hrcb⟩ := h
              rw [HA.out] at he hrow
              rw [HER.out] at he
              rw [HX3.out] at hch
              subst he
              have hv1 := hg.size
              have HAW1 := Lib.hid (HAW.out.prog hch hg fun k hk => ⟨(hX1 k hk).1, (hX1 k hk).2.1⟩)
              have HRX := Lib.hid (fun ad (e : rA = some ad) => (⟨hrcb ad e, fun h => (hX1 _ h).2.2 ad e rfl⟩ : ad.block ≠ cb ∧ ¬ X1 ad.block))
              have HROW1 := Lib.hid hrow
              clear hrow hch hg hX1 hrcb HC
              go_upto_region 24 with (fail)
              refine name_world fun v2 y1 y2 y3 y4 => ?_
              have hk2 : Blk v2 v1.heap.size 51 #[.int .i64 a.seq, .string a.text, .slice rA a.tag.length rc] := (by unfold Blk; rw [y1]; exact Blk.new v1 _ _)
              have hb2 : Below v1.heap.size v1 v2 := below_heap ((Below.refl _ _).alloc (Nat.le_refl _) _) y1 y2 y3 y4
              have hv2 : v1.heap.size < v2.heap.size := hk2.lt
              have haw2 := HAW1.out.new hb2
              have c2 : v2.cell? ⟨sb, so + j, none⟩ = some (.string s) := (haw2.2.2.2.2.2.2.2.cell (p := ⟨sb, so + j, none⟩) hTR).trans HCW0.out
              have HK2 := Lib.hid hk2
              have HROW2 := Lib.hid (HROW1.out.below hb2 (Nat.le_refl _))
              have HC := Lib.hid (rAns_any xb Z key x s v2 haw2.2.1 HGD.out (by omega) hsz0)
              have HAW2 := Lib.hid haw2
              clear y1 y2 y3 y4 hk2 hb2 haw2 HAW1 HROW1
              go_wp2_with fail
              refine HC.out.mono ?_
              intro e v3 h
              obtain ⟨vs, Z1, he, hp3, hrc, hg, hZ1⟩ := h
              rw [HA.out] at he hp3
              rw [HER.out] at he
              rw [HX3.out] at hrc
              subst he
              have hv3 := hg.size
              have hzl : ∀ k, Z k → k < wr.heap.size := fun k hk => (HAW.out.2.2.2.1 k hk).2.1
              have hxl : xb < wr.heap.size := HAW.out.2.1.lt
              have hrl : ∀ ad, rA = some ad → wr.heap.size ≤ ad.block ∧ ad.block < v2.heap.size := fun ad e => HROW2.out.lt ad e
              have hr3 := HROW2.out.grew hg (fun ad e h => by have := hrl ad e; rcases h with h | h; omega; have := hzl _ h; omega)
              have hk3 := HK2.out.grew hg (fun h => by rcases h with h | h; omega; have := hzl _ h; omega)
              have HAW3 := Lib.hid (HAW2.out.ref hrc hg hZ1)
              have HRX3 := Lib.hid (fun ad (e : rA = some ad) => (⟨(HRX.out ad e).1, (HRX.out ad e).2, fun h => by have := hrl ad e; rcases (hZ1 _ h).1 with h2 | h2; have := hzl _ h2; omega; omega, by have := hrl ad e; omega, by have := hrl ad e; omega⟩ : ad.block ≠ cb ∧ ¬ X1 ad.block ∧ ¬ Z1 ad.block ∧ ad.block ≠ xb ∧ w.heap.size ≤ ad.block))
              obtain ⟨sA, sn, sc, rfl⟩ := hp3.form
              have HR3 := Lib.hid hr3
              have HK3 := Lib.hid hk3
              have HP3 := Lib.hid hp3
              clear hrc hg hZ1 hr3 hk3 hp3 HC hzl hxl hrl HK2 HROW2 HAW2 HRX c0 c2
              go_upto_region 25 with (fail)
              refine name_world fun v4 y1 y2 y3 y4 => ?_
              have hk4 : Blk v4 v3.heap.size 51 #[.int .i64 a.seq, .string a.text, .slice sA sn sc] := (by unfold Blk; rw [y1]; exact Blk.new v3 _ _)
              have hb4 : Below v3.heap.size v3 v4 := below_heap ((Below.refl _ _).alloc (Nat.le_refl _) _) y1 y2 y3 y4
              have hv4 : v3.heap.size < v4.heap.size := hk4.lt
              have hk5 := HK3.out.below hb4 (by omega)
              have hr4 := HR3.out.below hb4 (Nat.le_refl _)
              have hp4 := (HP3.out.keep fun k hk => hb4.block k hk).mono (R' := (· < v4.heap.size)) fun k hk => Nat.lt_trans hk hv4
              have p0 : v4.cell? ⟨v1.heap.size, 0, none⟩ = some (.int .i64 a.seq) := hk5.cell 0
              have p1 : v4.cell? ⟨v1.heap.size, 1, none⟩ = some (.string a.text) := hk5.cell 1
              have p2 : v4.cell? ⟨v1.heap.size, 2, none⟩ = some (.slice rA a.tag.length rc) := hk5.cell 2
              have r0 : v4.cell? ⟨v3.heap.size, 0, none⟩ = some (.int .i64 a.seq) := hk4.cell 0
              have r1 : v4.cell? ⟨v3.heap.size, 1, none⟩ = some (.string a.text) := hk4.cell 1
              have r2 : v4.cell? ⟨v3.heap.size, 2, none⟩ = some (.slice sA sn sc) := hk4.cell 2
              have hal : a.tag.length ≤ 140737488351232 := by
                rw [← HA.out]
                unfold Ch.ans
                split
                · exact Nat.le_trans (Nat.le_of_eq (length_tagB _ _ _ _)) (by decide)
                · exact Nat.zero_le _
              have HC := Lib.hid (same_pair a (.slice rA a.tag.length rc) (.slice sA sn sc) v4 (Part.of_row hr4 hal fun ad e => (hr4.lt ad e).2) hp4)
              have HAW4 := Lib.hid (HAW3.out.new hb4)
              have HK4 := Lib.hid hk5
              have HR4 := Lib.hid hr4
              have h14 : v1.heap.size < v4.heap.size := by omega
              clear y1 y2 y3 y4 hk4 hb4 hk5 hr4 hp4 HAW3 HK3 HR3 HP3
              go_wp2_with fail
              refine HC.out.mono ?_
              rintro e v5 ⟨rfl, hb5⟩
              have hv5 := hb5.size
              have hk5 := HK4.out.below hb5 h14
              have hr5 := HR4.out.below hb5 (Nat.le_refl _)
              have haw5 := HAW4.out.new hb5
              have p0 : v5.cell? ⟨v1.heap.size, 0, none⟩ = some (.int .i64 a.seq) := hk5.cell 0
              have p1 : v5.cell? ⟨v1.heap.size, 1, none⟩ = some (.string a.text) := hk5.cell 1
              have p2 : v5.cell? ⟨v1.heap.size, 2, none⟩ = some (.slice rA a.tag.length rc) := hk5.cell 2
              have hrs := lit_recS (a := a) (T := 51) hr5 hal
              have HC := Lib.hid (spoil_any _ 1 1 _ [a] _ hrs (by omega))
              have haw6 := haw5.new ((Below.refl v5.heap.size v5).alloc (Nat.le_refl _) (.cells #[.int .i64 a.seq, .string a.text, .slice rA a.tag.length rc] 51))
              have h15 : v1.heap.size < v5.heap.size := by omega
              have HS5 := Lib.hid (show ∀ k, (k = v5.heap.size ∨ ∃ ad, rA = some ad ∧ k = ad.block) → w.heap.size ≤ k ∧ k ≠ cb ∧ k ≠ xb ∧ ¬ X1 k ∧ ¬ Z1 k from fun k hk => by
                rcases hk with rfl | ⟨ad, e, rfl⟩
                · have h1 := haw5.1.lt
                  have h2 := haw5.2.1.lt
                  have h3 := haw5.2.2.2.2.2.2.2.size
                  exact ⟨h3, by omega, by omega, fun h => by have := (haw5.2.2.1 _ h).2.1; omega, fun h => by have := (haw5.2.2.2.1 _ h).2.1; omega⟩
                · obtain ⟨q1, q2, q3, q4, q5⟩ := HRX3.out ad e
                  exact ⟨q5, q1, q4, q2, q3⟩)
              have HAW6 := Lib.hid haw6
              clear hb5 hk5 hr5 haw5 haw6 hrs HAW4 HK4 HR4 r0 r1 r2 HRX3
              go_wp2_with fail
              refine HC.out.mono ?_
              rintro e v6 ⟨rfl, hg6⟩
              have haw7 := HAW6.out.far hg6 fun k hk _ => HS5.out k hk
              have HC := Lib.hid (tells_any cb xb X1 Z1 key x3 v6 haw7.1 haw7.2.1 HGD3.out)
              have HAW7 := Lib.hid haw7
              clear hg6 haw7 HAW6 HS5 p0 p1 p2
              go_wp2_with fail
              refine HC.out.mono ?_
              rintro e v7 ⟨rfl, hb7⟩
              have HAW8 := Lib.hid (HAW7.out.new hb7)
              have e7 : (er != er) = false := by simp
              clear hb7 HC HAW7
              go_wp2_with fail
              go_roundw
              case rel => exact ⟨j + 1, x3, X1, Z1, by omega, by omega, by go_num, HAW8.out, HGD3.out⟩
              case measure => simp [intOf]; omega
            · have hout : ¬ j < texts.length ∨ (j < texts.length ∧ ¬ j < 30) := by omega
              clear hin
              rcases hout with hlt | ⟨hlt, h30⟩
              all_goals
                have HC := Lib.hid (tells_any cb xb X Z key x wr HAW.out.1 HAW.out.2.1 HGD.out)
                go_wp2_with fail
                refine HC.out.mono ?_
                rintro e v1 ⟨rfl, hb1⟩
                have HB1 := Lib.hid (HAW.out.2.2.2.2.2.2.2.trans (hb1.mono hsz))
                clear hb1 HC
                go_wp2_with fail
                go_ret
                exact ⟨rfl, HB1.out⟩
        · clear HAW HGD hcb hxb hcl
          go_wp2_with fail
          refine HNC.out.mono ?_
          rintro e w10 ⟨cb, rfl, hcb, hch, hb10⟩
          have HC := Lib.hid (HNR.out w10 hb10)
          have HCH2 := Lib.hid hch
          have HB10 := Lib.hid hb10
          have hs10 := hb10.size
          have hcl2 := hch.lt
          clear hch hb10 HNC HNR
          go_wp2_with fail
          refine HC.out.mono ?_
          rintro e w11 ⟨xb, rfl, hxb, hrc, hb11⟩
          have HAW := Lib.hid (AW.mk (w := w) (wr := w11) (N := w10.heap.size) (HCH2.out.tight.new hb11) hrc (fun k hk => ⟨by have := hk.1; omega, hk.2⟩) (fun k hk => hk) ⟨by omega, hcl2⟩ hxb hb11.size ((HB9.out.trans (HB10.out.mono hsw9)).trans (hb11.mono (Nat.le_trans hsw9 hs10))))
          have HGD := Lib.hid (Good.new key)
          clear hrc hb11 HC HB10 HCH2 hcb hxb hcl2 hs10
          go_wp2_with fail
          clear HB9 G49 H1
          go_loopw [23] (fun s23 wr => PlayRel w cb xb key texts.length s23 wr) (fun i _ => 30 - (intOf i).toNat)
          case atStart => exact ⟨0, _, _, _, Nat.zero_le _, Nat.zero_le _, rfl, HAW.out, HGD.out⟩
          case round =>
            clear HAW HGD
            obtain ⟨j, x, X, Z, hj1, hj2, rfl, haw, hgd⟩ := hrel
            have HAW := Lib.hid haw
            have HGD := Lib.hid hgd
            have hsz := haw.2.2.2.2.2.2.2.size
            clear haw hgd
            by_cases hin : j < texts.length ∧ j < 30
            · obtain ⟨hlt, h30⟩ := hin
              obtain ⟨sb, so, hTA, hTR, hTc⟩ := HT.out (by omega)
              have cw0 := hTc j hlt
              have hsz0 := HTS.out texts[j] (List.getElem_mem hlt)
              generalize texts[j] = s at cw0 hsz0
              have c0 := (HAW.out.2.2.2.2.2.2.2.cell (p := ⟨sb, so + j, none⟩) hTR).trans cw0
              have HCW0 := Lib.hid cw0
              clear hTc cw0
              subst hTA
              have i1 : (0 : Int) ≤ (j : Int) := by omega
              have i2 : (j : Int) < (texts.length : Int) := by omega
              have HC := Lib.hid (Ans_any cb X key x s wr HAW.out.1 HGD.out (by omega) hsz0)
              obtain ⟨a, ha⟩ : ∃ a, x.ans s = a := ⟨_, rfl⟩
              obtain ⟨er, her⟩ : ∃ er, x.err s = er := ⟨_, rfl⟩
              obtain ⟨x3, hx3⟩ : ∃ x3, x.put s = x3 := ⟨_, rfl⟩
              have HA := Lib.hid ha
              have HER := Lib.hid her
              have HX3 := Lib.hid hx3
              have hgd3 := (HGD.out.put s).1
              rw [hx3] at hgd3
              have HGD3 := Lib.hid hgd3
              clear ha her hx3 hgd3
              go_wp2_with fail
              refine HC.out.mono ?_
              intro e v1 h
              obtain ⟨rA, rc, X1, he, hrow, hch, hg, hX1, hrcb⟩ := h
              rw [HA.out] at he hrow
              rw [HER.out] at he
              rw [HX3.out] at hch
              subst he
              have hv1 := hg.size
              have HAW1 := Lib.hid (HAW.out.prog hch hg fun k hk => ⟨(hX1 k hk).1, (hX1 k hk).2.1⟩)
              have HRX := Lib.hid (fun ad (e : rA = some ad) => (⟨hrcb ad e, fun h => (hX1 _ h).2.2 ad e rfl⟩ : ad.block ≠ cb ∧ ¬ X1 ad.block))
              have HROW1 := Lib.hid hrow
              clear hrow hch hg hX1 hrcb HC
              go_upto_region 24 with (fail)
              refine name_world fun v2 y1 y2 y3 y4 => ?_
              have hk2 : Blk v2 v1.heap.size 51 #[.int .i64 a.seq, .string a.text, .slice rA a.tag.length rc] := (by unfold Blk; rw [y1]; exact Blk.new v1 _ _)
              have hb2 : Below v1.heap.size v1 v2 := below_heap ((Below.refl _ _).alloc (Nat.le_refl _) _) y1 y2 y3 y4
              have hv2 : v1.heap.size < v2.heap.size := hk2.lt
              have haw2 := HAW1.out.new hb2
              have c2 : v2.cell? ⟨sb, so + j, none⟩ = some (.string s) := (haw2.2.2.2.2.2.2.2.cell (p := ⟨sb, so + j, none⟩) hTR).trans HCW0.out
              have HK2 := Lib.hid hk2
              have HROW2 := Lib.hid (HROW1.out.below hb2 (Nat.le_refl _))
              have HC := Lib.hid (rAns_any xb Z key x s v2 haw2.2.1 HGD.out (by omega) hsz0)
              have HAW2 := Lib.hid haw2
              clear y1 y2 y3 y4 hk2 hb2 haw2 HAW1 HROW1
              go_wp2_with fail
              refine HC.out.mono ?_
              intro e v3 h
              obtain ⟨vs, Z1, he, hp3, hrc, hg, hZ1⟩ := h
              rw [HA.out] at he hp3
              rw [HER.out] at he
              rw [HX3.out] at hrc
              subst he
              have hv3 := hg.size
              have hzl : ∀ k, Z k → k < wr.heap.size := fun k hk => (HAW.out.2.2.2.1 k hk).2.1
              have hxl : xb < wr.heap.size := HAW.out.2.1.lt
              have hrl : ∀ ad, rA = some ad → wr.heap.size ≤ ad.block ∧ ad.block < v2.heap.size := fun ad e => HROW2.out.lt ad e
              have hr3 := HROW2.out.grew hg (fun ad e h => by have := hrl ad e; rcases h with h | h; omega; have := hzl _ h; omega)
              have hk3 := HK2.out.grew hg (fun h => by rcases h with h | h; omega; have := hzl _ h; omega)
              have HAW3 := Lib.hid (HAW2.out.ref hrc hg hZ1)
              have HRX3 := Lib.hid (fun ad (e : rA = some ad) => (⟨(HRX.out ad e).1, (HRX.out ad e).2, fun h => by have := hrl ad e; rcases (hZ1 _ h).1 with h2 | h2; have := hzl _ h2; omega; omega, by have := hrl ad e; omega, by have := hrl ad e; omega⟩ : ad.block ≠ cb ∧ ¬ X1 ad.block ∧ ¬ Z1 ad.block ∧ ad.block ≠ xb ∧ w.heap.size ≤ ad.block))
              obtain ⟨sA, sn, sc, rfl⟩ := hp3.form
              have HR3 := Lib.hid hr3
              have HK3 := Lib.hid hk3
              have HP3 := Lib.hid hp3
              clear hrc hg hZ1 hr3 hk3 hp3 HC hzl hxl hrl HK2 HROW2 HAW2 HRX c0 c2
              go_upto_region 25 with (fail)
              refine name_world fun v4 y1 y2 y3 y4 => ?_
              have hk4 : Blk v4 v3.heap.size 51 #[.int .i64 a.seq, .string a.text, .slice sA sn sc] := (by unfold Blk; rw [y1]; exact Blk.new v3 _ _)
              have hb4 : Below v3.heap.size v3 v4 := below_heap ((Below.refl _ _).alloc (Nat.le_refl _) _) y1 y2 y3 y4
              have hv4 : v3.heap.size < v4.heap.size := hk4.lt
              have hk5 := HK3.out.below hb4 (by omega)
              have hr4 := HR3.out.below hb4 (Nat.le_refl _)
              have hp4 := (HP3.out.keep fun k hk => hb4.block k hk).mono (R' := (· < v4.heap.size)) fun k hk => Nat.lt_trans hk hv4
              have p0 : v4.cell? ⟨v1.heap.size, 0, none⟩ = some (.int .i64 a.seq) := hk5.cell 0
              have p1 : v4.cell? ⟨v1.heap.size, 1, none⟩ = some (.string a.text) := hk5.cell 1
              have p2 : v4.cell? ⟨v1.heap.size, 2, none⟩ = some (.slice rA a.tag.length rc) := hk5.cell 2
              have r0 : v4.cell? ⟨v3.heap.size, 0, none⟩ = some (.int .i64 a.seq) := hk4.cell 0
              have r1 : v4.cell? ⟨v3.heap.size, 1, none⟩ = some (.string a.text) := hk4.cell 1
              have r2 : v4.cell? ⟨v3.heap.size, 2, none⟩ = some (.slice sA sn sc) := hk4.cell 2
              have hal : a.tag.length ≤ 140737488351232 := by
                rw [← HA.out]
                unfold Ch.ans
                split
                · exact Nat.le_trans (Nat.le_of_eq (length_tagB _ _ _ _)) (by decide)
                · exact Nat.zero_le _
              have HC := Lib.hid (same_pair a (.slice rA a.tag.length rc) (.slice sA sn sc) v4 (Part.of_row hr4 hal fun ad e => (hr4.lt ad e).2) hp4)
              have HAW4 := Lib.hid (HAW3.out.new hb4)
              have HK4 := Lib.hid hk5
              have HR4 := Lib.hid hr4
              have h14 : v1.heap.size < v4.heap.size := by omega
              clear y1 y2 y3 y4 hk4 hb4 hk5 hr4 hp4 HAW3 HK3 HR3 HP3
              go_wp2_with fail
              refine HC.out.mono ?_
              rintro e v5 ⟨rfl, hb5⟩
              have hv5 := hb5.size
              have hk5 := HK4.out.below hb5 h14
              have hr5 := HR4.out.below hb5 (Nat.le_refl _)
              have haw5 := HAW4.out.new hb5
              have p0 : v5.cell? ⟨v1.heap.size, 0, none⟩ = some (.int .i64 a.seq) := hk5.cell 0
              have p1 : v5.cell? ⟨v1.heap.size, 1, none⟩ = some (.string a.text) := hk5.cell 1
              have p2 : v5.cell? ⟨v1.heap.size, 2, none⟩ = some (.slice rA a.tag.length rc) := hk5.cell 2
              have hrs := lit_recS (a := a) (T := 51) hr5 hal
              have HC := Lib.hid (spoil_any _ 1 1 _ [a] _ hrs (by omega))
              have haw6 := haw5.new ((Below.refl v5.heap.size v5).alloc (Nat.le_refl _) (.cells #[.int .i64 a.seq, .string a.text, .slice rA a.tag.length rc] 51))
              have h15 : v1.heap.size < v5.heap.size := by omega
              have HS5 := Lib.hid (show ∀ k, (k = v5.heap.size ∨ ∃ ad, rA = some ad ∧ k = ad.block) → w.heap.size ≤ k ∧ k ≠ cb ∧ k ≠ xb ∧ ¬ X1 k ∧ ¬ Z1 k from fun k hk => by
                rcases hk with rfl | ⟨ad, e, rfl⟩
                · have h1 := haw5.1.lt
                  have h2 := haw5.2.1.lt
                  have h3 := haw5.2.2.2.2.2.2.2.size
                  exact ⟨h3, by omega, by omega, fun h => by have := (haw5.2.2.1 _ h).2.1; omega, fun h => by have := (haw5.2.2.2.1 _ h).2.1; omega⟩
                · obtain ⟨q1, q2, q3, q4, q5⟩ := HRX3.out ad e
                  exact ⟨q5, q1, q4, q2, q3⟩)
              have HAW6 := Lib.hid haw6
              clear hb5 hk5 hr5 haw5 haw6 hrs HAW4 HK4 HR4 r0 r1 r2 HRX3
              go_wp2_with fail
              refine HC.out.mono ?_
              rintro e v6 ⟨rfl, hg6⟩
              have haw7 := HAW6.out.far hg6 fun k hk _ => HS5.out k hk
              have HC := Lib.hid (tells_any cb xb X1 Z1 key x3 v6 haw7.1 haw7.2.1 HGD3.out)
              have HAW7 := Lib.hid haw7
              clear hg6 haw7 HAW6 HS5 p0 p1 p2
              go_wp2_with fail
              refine HC.out.mono ?_
              rintro e v7 ⟨rfl, hb7⟩
              have HAW8 := Lib.hid (HAW7.out.new hb7)
              have e7 : (er != er) = false := by simp
              clear hb7 HC HAW7
              go_wp2_with fail
              go_roundw
              case rel => exact ⟨j + 1, x3, X1, Z1, by omega, by omega, by go_num, HAW8.out, HGD3.out⟩
              case measure => simp [intOf]; omega
            · have hout : ¬ j < texts.length ∨ (j < texts.length ∧ ¬ j < 30) := by omega
              clear hin
              rcases hout with hlt | ⟨hlt, h30⟩
              all_goals
                have HC := Lib.hid (tells_any cb xb X Z key x wr HAW.out.1 HAW.out.2.1 HGD.out)
                go_wp2_with fail
                refine HC.out.mono ?_
                rintro e v1 ⟨rfl, hb1⟩
                have HB1 := Lib.hid (HAW.out.2.2.2.2.2.2.2.trans (hb1.mono hsz))
                clear hb1 HC
                go_wp2_with fail
                go_ret
                exact ⟨rfl, HB1.out⟩
      · exact absurd hro hno
    · rcases HE.out with ⟨hyes, _⟩ | ⟨_, rfl, rfl⟩
      · exact absurd hyes hro
      · clear HD HE hro
        cases fresh
        · go_wp2_with fail
          refine HNC.out.mono ?_
          rintro e w10 ⟨cb, rfl, hcb, hch, hb10⟩
          have HC := Lib.hid (HNR.out w10 hb10)
          have HCH2 := Lib.hid hch
          have HB10 := Lib.hid hb10
          have hs10 := hb10.size
          have hcl2 := hch.lt
          clear hch hb10 HNC HNR
          go_wp2_with fail
          refine HC.out.mono ?_
          rintro e w11 ⟨xb, rfl, hxb, hrc, hb11⟩
          have HAW := Lib.hid (AW.mk (w := w) (wr := w11) (N := w10.heap.size) (HCH2.out.tight.new hb11) hrc (fun k hk => ⟨by have := hk.1; omega, hk.2⟩) (fun k hk => hk) ⟨by omega, hcl2⟩ hxb hb11.size ((HB9.out.trans (HB10.out.mono hsw9)).trans (hb11.mono (Nat.le_trans hsw9 hs10))))
          have HGD := Lib.hid (Good.new key)
          clear hrc hb11 HC HB10 HCH2 hcb hxb hcl2 hs10
          go_wp2_with fail
          clear HB9 G49 H1
          go_loopw [23] (fun s23 wr => PlayRel w cb xb key texts.length s23 wr) (fun i _ => 30 - (intOf i).toNat)
          case atStart => exact ⟨0, _, _, _, Nat.zero_le _, Nat.zero_le _, rfl, HAW.out, HGD.out⟩
          case round =>
            clear HAW HGD
            obtain ⟨j, x, X, Z, hj1, hj2, rfl, haw, hgd⟩ := hrel
            have HAW := Lib.hid haw
            have HGD := Lib.hid hgd
            have hsz := haw.2.2.2.2.2.2.2.size
            clear haw hgd
            by_cases hin : j < texts.length ∧ j < 30
            · obtain ⟨hlt, h30⟩ := hin
              obtain ⟨sb, so, hTA, hTR, hTc⟩ := HT.out (by omega)
              have cw0 := hTc j hlt
              have hsz0 := HTS.out texts[j] (List.getElem_mem hlt)
              generalize texts[j] = s at cw0 hsz0
              have c0 := (HAW.out.2.2.2.2.2.2.2.cell (p := ⟨sb, so + j, none⟩) hTR).trans cw0
              have HCW0 := Lib.hid cw0
              clear hTc cw0
              subst hTA
              have i1 : (0 : Int) ≤ (j : Int) := by omega
              have i2 : (j : Int) < (texts.length : Int) := by omega
              have HC := Lib.hid (Ans_any cb X key x s wr HAW.out.1 HGD.out (by omega) hsz0)
              obtain ⟨a, ha⟩ : ∃ a, x.ans s = a := ⟨_, rfl⟩
              obtain ⟨er, her⟩ : ∃ er, x.err s = er := ⟨_, rfl⟩
              obtain ⟨x3, hx3⟩ : ∃ x3, x.put s = x3 := ⟨_, rfl⟩
              have HA := Lib.hid ha
              have HER := Lib.hid her
              have HX3 := Lib.hid hx3
              have hgd3 := (HGD.out.put s).1
              rw [hx3] at hgd3
              have HGD3 := Lib.hid hgd3
              clear ha her hx3 hgd3
              go_wp2_with fail
              refine HC.out.mono ?_
              intro e v1 h
              obtain ⟨rA, rc, X1, he, hrow, hch, hg, hX1, hrcb⟩ := h
              rw [HA.out] at he hrow
              rw [HER.out] at he
              rw [HX3.out] at hch
              subst he
              have hv1 := hg.size
              have HAW1 := Lib.hid (HAW.out.prog hch hg fun k hk => ⟨(hX1 k hk).1, (hX1 k hk).2.1⟩)
              have HRX := Lib.hid (fun ad (e : rA = some ad) => (⟨hrcb ad e, fun h => (hX1 _ h).2.2 ad e rfl⟩ : ad.block ≠ cb ∧ ¬ X1 ad.block))
              have HROW1 := Lib.hid hrow
              clear hrow hch hg hX1 hrcb HC
              go_upto_region 24 with (fail)
              refine name_world fun v2 y1 y2 y3 y4 => ?_
              have hk2 : Blk v2 v1.heap.size 51 #[.int .i64 a.seq, .string a.text, .slice rA a.tag.length rc] := (by unfold Blk; rw [y1]; exact Blk.new v1 _ _)
              have hb2 : Below v1.heap.size v1 v2 := below_heap ((Below.refl _ _).alloc (Nat.le_refl _) _) y1 y2 y3 y4
              have hv2 : v1.heap.size < v2.heap.size := hk2.lt
              have haw2 := HAW1.out.new hb2
              have c2 : v2.cell? ⟨sb, so + j, none⟩ = some (.string s) := (haw2.2.2.2.2.2.2.2.cell (p := ⟨sb, so + j, none⟩) hTR).trans HCW0.out
              have HK2 := Lib.hid hk2
              have HROW2 := Lib.hid (HROW1.out.below hb2 (Nat.le_refl _))
              have HC := Lib.hid (rAns_any xb Z key x s v2 haw2.2.1 HGD.out (by omega) hsz0)
              have HAW2 := Lib.hid haw2
              clear y1 y2 y3 y4 hk2 hb2 haw2 HAW1 HROW1
              go_wp2_with fail
              refine HC.out.mono ?_
              intro e v3 h
              obtain ⟨vs, Z1, he, hp3, hrc, hg, hZ1⟩ := h
              rw [HA.out] at he hp3
              rw [HER.out] at he
              rw [HX3.out] at hrc
              subst he
              have hv3 := hg.size
              have hzl : ∀ k, Z k → k < wr.heap.size := fun k hk => (HAW.out.2.2.2.1 k hk).2.1
              have hxl : xb < wr.heap.size := HAW.out.2.1.lt
              have hrl : ∀ ad, rA = some ad → wr.heap.size ≤ ad.block ∧ ad.block < v2.heap.size := fun ad e => HROW2.out.lt ad e
              have hr3 := HROW2.out.grew hg (fun ad e h => by have := hrl ad e; rcases h with h | h; omega; have := hzl _ h; omega)
              have hk3 := HK2.out.grew hg (fun h => by rcases h with h | h; omega; have := hzl _ h; omega)
              have HAW3 := Lib.hid (HAW2.out.ref hrc hg hZ1)
              have HRX3 := Lib.hid (fun ad (e : rA = some ad) => (⟨(HRX.out ad e).1, (HRX.out ad e).2, fun h => by have := hrl ad e; rcases (hZ1 _ h).1 with h2 | h2; have := hzl _ h2; omega; omega, by have := hrl ad e; omega, by have := hrl ad e; omega⟩ : ad.block ≠ cb ∧ ¬ X1 ad.block ∧ ¬ Z1 ad.block ∧ ad.block ≠ xb ∧ w.heap.size ≤ ad.block))
              obtain ⟨sA, sn, sc, rfl⟩ := hp3.form
              have HR3 := Lib.hid hr3
              have HK3 := Lib.hid hk3
              have HP3 := Lib.hid hp3
              clear hrc hg hZ1 hr3 hk3 hp3 HC hzl hxl hrl HK2 HROW2 HAW2 HRX c0 c2
              go_upto_region 25 with (fail)
              refine name_world fun v4 y1 y2 y3 y4 => ?_
              have hk4 : Blk v4 v3.heap.size 51 #[.int .i64 a.seq, .string a.text, .slice sA sn sc] := (by unfold Blk; rw [y1]; exact Blk.new v3 _ _)
              have hb4 : Below v3.heap.size v3 v4 := below_heap ((Below.refl _ _).alloc (Nat.le_refl _) _) y1 y2 y3 y4
              have hv4 : v3.heap.size < v4.heap.size := hk4.lt
              have hk5 := HK3.out.below hb4 (by omega)
              have hr4 := HR3.out.below hb4 (Nat.le_refl _)
              have hp4 := (HP3.out.keep fun k hk => hb4.block k hk).mono (R' := (· < v4.heap.size)) fun k hk => Nat.lt_trans hk hv4
              have p0 : v4.cell? ⟨v1.heap.size, 0, none⟩ = some (.int .i64 a.seq) := hk5.cell 0
              have p1 : v4.cell? ⟨v1.heap.size, 1, none⟩ = some (.string a.text) := hk5.cell 1
              have p2 : v4.cell? ⟨v1.heap.size, 2, none⟩ = some (.slice rA a.tag.length rc) := hk5.cell 2
              have r0 : v4.cell? ⟨v3.heap.size, 0, none⟩ = some (.int .i64 a.seq) := hk4.cell 0
              have r1 : v4.cell? ⟨v3.heap.size, 1, none⟩ = some (.string a.text) := hk4.cell 1
              have r2 : v4.cell? ⟨v3.heap.size, 2, none⟩ = some (.slice sA sn sc) := hk4.cell 2
              have hal : a.tag.length ≤ 140737488351232 := by
                rw [← HA.out]
                unfold Ch.ans
                split
                · exact Nat.le_trans (Nat.le_of_eq (length_tagB _ _ _ _)) (by decide)
                · exact Nat.zero_le _
              have HC := Lib.hid (same_pair a (.slice rA a.tag.length rc) (.slice sA sn sc) v4 (Part.of_row hr4 hal fun ad e => (hr4.lt ad e).2) hp4)
              have HAW4 := Lib.hid (HAW3.out.new hb4)
              have HK4 := Lib.hid hk5
              have HR4 := Lib.hid hr4
              have h14 : v1.heap.size < v4.heap.size := by omega
              clear y1 y2 y3 y4 hk4 hb4 hk5 hr4 hp4 HAW3 HK3 HR3 HP3
              go_wp2_with fail
              refine HC.out.mono ?_
              rintro e v5 ⟨rfl, hb5⟩
              have hv5 := hb5.size
              have hk5 := HK4.out.below hb5 h14
              have hr5 := HR4.out.below hb5 (Nat.le_refl _)
              have haw5 := HAW4.out.new hb5
              have p0 : v5.cell? ⟨v1.heap.size, 0, none⟩ = some (.int .i64 a.seq) := hk5.cell 0
              have p1 : v5.cell? ⟨v1.heap.size, 1, none⟩ = some (.string a.text) := hk5.cell 1
              have p2 : v5.cell? ⟨v1.heap.size, 2, none⟩ = some (.slice rA a.tag.length rc) := hk5.cell 2
              have hrs := lit_recS (a := a) (T := 51) hr5 hal
              have HC := Lib.hid (spoil_any _ 1 1 _ [a] _ hrs (by omega))
              have haw6 := haw5.new ((Below.refl v5.heap.size v5).alloc (Nat.le_refl _) (.cells #[.int .i64 a.seq, .string a.text, .slice rA a.tag.length rc] 51))
              have h15 : v1.heap.size < v5.heap.size := by omega
              have HS5 := Lib.hid (show ∀ k, (k = v5.heap.size ∨ ∃ ad, rA = some ad ∧ k = ad.block) → w.heap.size ≤ k ∧ k ≠ cb ∧ k ≠ xb ∧ ¬ X1 k ∧ ¬ Z1 k from fun k hk => by
                rcases hk with rfl | ⟨ad, e, rfl⟩
                · have h1 := haw5.1.lt
                  have h2 := haw5.2.1.lt
                  have h3 := haw5.2.2.2.2.2.2.2.size
                  exact ⟨h3, by omega, by omega, fun h => by have := (haw5.2.2.1 _ h).2.1; omega, fun h => by have := (haw5.2.2.2.1 _ h).2.1; omega⟩
                · obtain ⟨q1, q2, q3, q4, q5⟩ := HRX3.out ad e
                  exact ⟨q5, q1, q4, q2, q3⟩)
              have HAW6 := Lib.hid haw6
              clear hb5 hk5 hr5 haw5 haw6 hrs HAW4 HK4 HR4 r0 r1 r2 HRX3
              go_wp2_with fail
              refine HC.out.mono ?_
              rintro e v6 ⟨rfl, hg6⟩
              have haw7 := HAW6.out.far hg6 fun k hk _ => HS5.out k hk
              have HC := Lib.hid (tells_any cb xb X1 Z1 key x3 v6 haw7.1 haw7.2.1 HGD3.out)
              have HAW7 := Lib.hid haw7
              clear hg6 haw7 HAW6 HS5 p0 p1 p2
              go_wp2_with fail
              refine HC.out.mono ?_
              rintro e v7 ⟨rfl, hb7⟩
              have HAW8 := Lib.hid (HAW7.out.new hb7)
              have e7 : (er != er) = false := by simp
              clear hb7 HC HAW7
              go_wp2_with fail
              go_roundw
              case rel => exact ⟨j + 1, x3, X1, Z1, by omega, by omega, by go_num, HAW8.out, HGD3.out⟩
              case measure => simp [intOf]; omega
            · have hout : ¬ j < texts.length ∨ (j < texts.length ∧ ¬ j < 30) := by omega
              clear hin
              rcases hout with hlt | ⟨hlt, h30⟩
              all_goals
                have HC := Lib.hid (tells_any cb xb X Z key x wr HAW.out.1 HAW.out.2.1 HGD.out)
                go_wp2_with fail
                refine HC.out.mono ?_
                rintro e v1 ⟨rfl, hb1⟩
                have HB1 := Lib.hid (HAW.out.2.2.2.2.2.2.2.trans (hb1.mono hsz))
                clear hb1 HC
                go_wp2_with fail
                go_ret
                exact ⟨rfl, HB1.out⟩
        · go_wp2_with fail
          refine HNC.out.mono ?_
          rintro e w10 ⟨cb, rfl, hcb, hch, hb10⟩
          have HC := Lib.hid (HNR.out w10 hb10)
          have HCH2 := Lib.hid hch
          have HB10 := Lib.hid hb10
          have hs10 := hb10.size
          have hcl2 := hch.lt
          clear hch hb10 HNC HNR
          go_wp2_with fail
          refine HC.out.mono ?_
          rintro e w11 ⟨xb, rfl, hxb, hrc, hb11⟩
          have HAW := Lib.hid (AW.mk (w := w) (wr := w11) (N := w10.heap.size) (HCH2.out.tight.new hb11) hrc (fun k hk => ⟨by have := hk.1; omega, hk.2⟩) (fun k hk => hk) ⟨by omega, hcl2⟩ hxb hb11.size ((HB9.out.trans (HB10.out.mono hsw9)).trans (hb11.mono (Nat.le_trans hsw9 hs10))))
          have HGD := Lib.hid (Good.new key)
          clear hrc hb11 HC HB10 HCH2 hcb hxb hcl2 hs10
          go_wp2_with fail
          clear HB9 G49 H1
          go_loopw [23] (fun s23 wr => PlayRel w cb xb key texts.length s23 wr) (fun i _ => 30 - (intOf i).toNat)
          case atStart => exact ⟨0, _, _, _, Nat.zero_le _, Nat.zero_le _, rfl, HAW.out, HGD.out⟩
          case round =>
            clear HAW HGD
            obtain ⟨j, x, X, Z, hj1, hj2, rfl, haw, hgd⟩ := hrel
            have HAW := Lib.hid haw
            have HGD := Lib.hid hgd
            have hsz := haw.2.2.2.2.2.2.2.size
            clear haw hgd
            by_cases hin : j < texts.length ∧ j < 30
            · obtain ⟨hlt, h30⟩ := hin
              obtain ⟨sb, so, hTA, hTR, hTc⟩ := HT.out (by omega)
              have cw0 := hTc j hlt
              have hsz0 := HTS.out texts[j] (List.getElem_mem hlt)
              generalize texts[j] = s at cw0 hsz0
              have c0 := (HAW.out.2.2.2.2.2.2.2.cell (p := ⟨sb, so + j, none⟩) hTR).trans cw0
              have HCW0 := Lib.hid cw0
              clear hTc cw0
              subst hTA
              have i1 : (0 : Int) ≤ (j : Int) := by omega
              have i2 : (j : Int) < (texts.length : Int) := by omega
              have HC := Lib.hid (Ans_any cb X key x s wr HAW.out.1 HGD.out (by omega) hsz0)
              obtain ⟨a, ha⟩ : ∃ a, x.ans s = a := ⟨_, rfl⟩
              obtain ⟨er, her⟩ : ∃ er, x.err s = er := ⟨_, rfl⟩
              obtain ⟨x3, hx3⟩ : ∃ x3, x.put s = x3 := ⟨_, rfl⟩
              have HA := Lib.hid ha
              have HER := Lib.hid her
              have HX3 := Lib.hid hx3
              have hgd3 := (HGD.out.put s).1
              rw [hx3] at hgd3
              have HGD3 := Lib.hid hgd3
              clear ha her hx3 hgd3
              go_wp2_with fail
              refine HC.out.mono ?_
              intro e v1 h
              obtain ⟨rA, rc, X1, he, hrow, hch, hg, hX1, hrcb⟩ := h
              rw [HA.out] at he hrow
              rw [HER.out] at he
              rw [HX3.out] at hch
              subst he
              have hv1 := hg.size
              have HAW1 := Lib.hid (HAW.out.prog hch hg fun k hk => ⟨(hX1 k hk).1, (hX1 k hk).2.1⟩)
              have HRX := Lib.hid (fun ad (e : rA = some ad) => (⟨hrcb ad e, fun h => (hX1 _ h).2.2 ad e rfl⟩ : ad.block ≠ cb ∧ ¬ X1 ad.block))
              have HROW1 := Lib.hid hrow
              clear hrow hch hg hX1 hrcb HC
              go_upto_region 24 with (fail)
              refine name_world fun v2 y1 y2 y3 y4 => ?_
              have hk2 : Blk v2 v1.heap.size 51 #[.int .i64 a.seq, .string a.text, .slice rA a.tag.length rc] := (by unfold Blk; rw [y1]; exact Blk.new v1 _ _)
              have hb2 : Below v1.heap.size v1 v2 := below_heap ((Below.refl _ _).alloc (Nat.le_refl _) _) y1 y2 y3 y4
              have hv2 : v1.heap.size < v2.heap.size := hk2.lt
              have haw2 := HAW1.out.new hb2
              have c2 : v2.cell? ⟨sb, so + j, none⟩ = some (.string s) := (haw2.2.2.2.2.2.2.2.cell (p := ⟨sb, so + j, none⟩) hTR).trans HCW0.out
              have HK2 := Lib.hid hk2
              have HROW2 := Lib.hid (HROW1.out.below hb2 (Nat.le_refl _))
              have HC := Lib.hid (rAns_any xb Z key x s v2 haw2.2.1 HGD.out (by omega) hsz0)
              have HAW2 := Lib.hid haw2
              clear y1 y2 y3 y4 hk2 hb2 haw2 HAW1 HROW1
              go_wp2_with fail
              refine HC.out.mono ?_
              intro e v3 h
              obtain ⟨vs, Z1, he, hp3, hrc, hg, hZ1⟩ := h
              rw [HA.out] at he hp3
              rw [HER.out] at he
              rw [HX3.out] at hrc
              subst he
              have hv3 := hg.size
              have hzl : ∀ k, Z k → k < wr.heap.size := fun k hk => (HAW.out.2.2.2.1 k hk).2.1
              have hxl : xb < wr.heap.size := HAW.out.2.1.lt
              have hrl : ∀ ad, rA = some ad → wr.heap.size ≤ ad.block ∧ ad.block < v2.heap.size := fun ad e => HROW2.out.lt ad e
              have hr3 := HROW2.out.grew hg (fun ad e h => by have := hrl ad e; rcases h with h | h; omega; have := hzl _ h; omega)
              have hk3 := HK2.out.grew hg (fun h => by rcases h with h | h; omega; have := hzl _ h; omega)
              have HAW3 := Lib.hid (HAW2.out.ref hrc hg hZ1)
              have HRX3 := Lib.hid (fun ad (e : rA = some ad) => (⟨(HRX.out ad e).1, (HRX.out ad e).2, fun h => by have := hrl ad e; rcases (hZ1 _ h).1 with h2 | h2; have := hzl _ h2; omega; omega, by have := hrl ad e; omega, by have := hrl ad e; omega⟩ : ad.block ≠ cb ∧ ¬ X1 ad.block ∧ ¬ Z1 ad.block ∧ ad.block ≠ xb ∧ w.heap.size ≤ ad.block))
              obtain ⟨sA, sn, sc, rfl⟩ := hp3.form
              have HR3 := Lib.hid hr3
              have HK3 := Lib.hid hk3
              have HP3 := Lib.hid hp3
              clear hrc hg hZ1 hr3 hk3 hp3 HC hzl hxl hrl HK2 HROW2 HAW2 HRX c0 c2
              go_upto_region 25 with (fail)
              refine name_world fun v4 y1 y2 y3 y4 => ?_
              have hk4 : Blk v4 v3.heap.size 51 #[.int .i64 a.seq, .string a.text, .slice sA sn sc] := (by unfold Blk; rw [y1]; exact Blk.new v3 _ _)
              have hb4 : Below v3.heap.size v3 v4 := below_heap ((Below.refl _ _).alloc (Nat.le_refl _) _) y1 y2 y3 y4
              have hv4 : v3.heap.size < v4.heap.size := hk4.lt
              have hk5 := HK3.out.below hb4 (by omega)
              have hr4 := HR3.out.below hb4 (Nat.le_refl _)
              have hp4 := (HP3.out.keep fun k hk => hb4.block k hk).mono (R' := (· < v4.heap.size)) fun k hk => Nat.lt_trans hk hv4
              have p0 : v4.cell? ⟨v1.heap.size, 0, none⟩ = some (.int .i64 a.seq) := hk5.cell 0
              have p1 : v4.cell? ⟨v1.heap.size, 1, none⟩ = some (.string a.text) := hk5.cell 1
              have p2 : v4.cell? ⟨v1.heap.size, 2, none⟩ = some (.slice rA a.tag.length rc) := hk5.cell 2
              have r0 : v4.cell? ⟨v3.heap.size, 0, none⟩ = some (.int .i64 a.seq) := hk4.cell 0
              have r1 : v4.cell? ⟨v3.heap.size, 1, none⟩ = some (.string a.text) := hk4.cell 1
              have r2 : v4.cell? ⟨v3.heap.size, 2, none⟩ = some (.slice sA sn sc) := hk4.cell 2
              have hal : a.tag.length ≤ 140737488351232 := by
                rw [← HA.out]
                unfold Ch.ans
                split
                · exact Nat.le_trans (Nat.le_of_eq (length_tagB _ _ _ _)) (by decide)
                · exact Nat.zero_le _
              have HC := Lib.hid (same_pair a (.slice rA a.tag.length rc) (.slice sA sn sc) v4 (Part.of_row hr4 hal fun ad e => (hr4.lt ad e).2) hp4)
              have HAW4 := Lib.hid (HAW3.out.new hb4)
              have HK4 := Lib.hid hk5
              have HR4 := Lib.hid hr4
              have h14 : v1.heap.size < v4.heap.size := by omega
              clear y1 y2 y3 y4 hk4 hb4 hk5 hr4 hp4 HAW3 HK3 HR3 HP3
              go_wp2_with fail
              refine HC.out.mono ?_
              rintro e v5 ⟨rfl, hb5⟩
              have hv5 := hb5.size
              have hk5 := HK4.out.below hb5 h14
              have hr5 := HR4.out.below hb5 (Nat.le_refl _)
              have haw5 := HAW4.out.new hb5
              have p0 : v5.cell? ⟨v1.heap.size, 0, none⟩ = some (.int .i64 a.seq) := hk5.cell 0
              have p1 : v5.cell? ⟨v1.heap.size, 1, none⟩ = some (.string a.text) := hk5.cell 1
              have p2 : v5.cell? ⟨v1.heap.size, 2, none⟩ = some (.slice rA a.tag.length rc) := hk5.cell 2
              have hrs := lit_recS (a := a) (T := 51) hr5 hal
              have HC := Lib.hid (spoil_any _ 1 1 _ [a] _ hrs (by omega))
              have haw6 := haw5.new ((Below.refl v5.heap.size v5).alloc (Nat.le_refl _) (.cells #[.int .i64 a.seq, .string a.text, .slice rA a.tag.length rc] 51))
              have h15 : v1.heap.size < v5.heap.size := by omega
              have HS5 := Lib.hid (show ∀ k, (k = v5.heap.size ∨ ∃ ad, rA = some ad ∧ k = ad.block) → w.heap.size ≤ k ∧ k ≠ cb ∧ k ≠ xb ∧ ¬ X1 k ∧ ¬ Z1 k from fun k hk => by
                rcases hk with rfl | ⟨ad, e, rfl⟩
                · have h1 := haw5.1.lt
                  have h2 := haw5.2.1.lt
                  have h3 := haw5.2.2.2.2.2.2.2.size
                  exact ⟨h3, by omega, by omega, fun h => by have := (haw5.2.2.1 _ h).2.1; omega, fun h => by have := (haw5.2.2.2.1 _ h).2.1; omega⟩
                · obtain ⟨q1, q2, q3, q4, q5⟩ := HRX3.out ad e
                  exact ⟨q5, q1, q4, q2, q3⟩)
              have HAW6 := Lib.hid haw6
              clear hb5 hk5 hr5 haw5 haw6 hrs HAW4 HK4 HR4 r0 r1 r2 HRX3
              go_wp2_with fail
              refine HC.out.mono ?_
              rintro e v6 ⟨rfl, hg6⟩
              have haw7 := HAW6.out.far hg6 fun k hk _ => HS5.out k hk
              have HC := Lib.hid (tells_any cb xb X1 Z1 key x3 v6 haw7.1 haw7.2.1 HGD3.out)
              have HAW7 := Lib.hid haw7
              clear hg6 haw7 HAW6 HS5 p0 p1 p2
              go_wp2_with fail
              refine HC.out.mono ?_
              rintro e v7 ⟨rfl, hb7⟩
              have HAW8 := Lib.hid (HAW7.out.new hb7)
              have e7 : (er != er) = false := by simp
              clear hb7 HC HAW7
              go_wp2_with fail
              go_roundw
              case rel => exact ⟨j + 1, x3, X1, Z1, by omega, by omega, by go_num, HAW8.out, HGD3.out⟩
              case measure => simp [intOf]; omega
            · have hout : ¬ j < texts.length ∨ (j < texts.length ∧ ¬ j < 30) := by omega
              clear hin
              rcases hout with hlt | ⟨hlt, h30⟩
              all_goals
                have HC := Lib.hid (tells_any cb xb X Z key x wr HAW.out.1 HAW.out.2.1 HGD.out)
                go_wp2_with fail
                refine HC.out.mono ?_
                rintro e v1 ⟨rfl, hb1⟩
                have HB1 := Lib.hid (HAW.out.2.2.2.2.2.2.2.trans (hb1.mono hsz))
                clear hb1 HC
                go_wp2_with fail
                go_ret
                exact ⟨rfl, HB1.out⟩
end Go.Proofs.Ytbjlmodabiadfaa
