/- THE WALK of the law AuditTurned. -/
import Derived.Test.YtbjlmodabiadfaaChain6
import Derived.Test.YtbjlmodabiadfaaArgs2
import Derived.Test.YtbjlmodabiadfaaMacHalves
import Derived.StillTailTactics
namespace Go.Proofs.Ytbjlmodabiadfaa
open Go.RowKit

/-- The k-th record in its row. -/
theorem RowRecP.at_ {w : World} {base n c k : Nat} {A : Option Addr} {L : List Rec} (h : RowRecP w base A n c L) (hk : k < L.length) : ∃ b o tA tc, A = some ⟨b, o, none⟩ ∧ b < w.heap.size ∧ base ≤ b ∧ w.frozen? ⟨b, o + k * 3, none⟩ = false ∧ w.cell? ⟨b, o + k * 3, none⟩ = some (.int .i64 L[k].seq) ∧
    w.cell? ⟨b, o + k * 3 + 2, none⟩ = some (.slice tA L[k].tag.length tc) ∧ Row w base 1 tA L[k].tag.length tc (bv L[k].tag) ∧
    (∀ g p q cc, tA = some ⟨g, p, none⟩ → q < L[k].tag.length → g ≠ b ∧ Recs (w.setCell ⟨g, p + q, none⟩ (.int .u8 ((cc : UInt8).toNat : Int))) (· < w.heap.size) A (L.set k ⟨L[k].seq, L[k].text, L[k].tag.set q cc⟩)) ∧
    ∀ s, Recs (w.setCell ⟨b, o + k * 3, none⟩ (.int .i64 s)) (· < w.heap.size) A (L.set k ⟨s, L[k].text, L[k].tag⟩) := by
  obtain ⟨vs, h1, h2, h3, h4, h5⟩ := h
  obtain ⟨b, o, hA, hb, hcell⟩ := h3.reads.2 (by omega)
  subst hA
  have hbb := (h3.lt _ rfl).1
  have z : ∀ i (hi : i < L.length) (hi' : i < vs.length), w.cell? ⟨b, o + i * 3, none⟩ = some (.int .i64 L[i].seq) ∧ w.cell? ⟨b, o + i * 3 + 1, none⟩ = some (.string L[i].text) ∧ w.cell? ⟨b, o + i * 3 + 2, none⟩ = some vs[i] := fun i hi hi' => by
    obtain ⟨g0, g1, g2⟩ := zip_at L vs (by omega) i hi hi'
    exact ⟨hcell _ _ g0, by simpa [Nat.add_assoc] using hcell _ _ g1, by simpa [Nat.add_assoc] using hcell _ _ g2⟩
  obtain ⟨tA, tc, hv, hr, ha, hl⟩ := h4 k hk (by omega)
  have hz := z k hk (by omega)
  rw [hv] at hz
  have hn := h3.2.1
  refine ⟨b, o, tA, tc, rfl, hb, hbb, h3.free (by omega), hz.1, hz.2.2, hr, fun g p q cc e hq => ?_, fun s => ?_⟩
  · subst e
    have hgb : g ≠ b := ha _ rfl _ rfl
    have hgr : Grew (· = g) w (w.setCell ⟨g, p + q, none⟩ (.int .u8 (cc.toNat : Int))) := (Grew.refl (· = g) w).set (p := ⟨g, p + q, none⟩) (.inl rfl) _
    have hrow := hr.set (j := q) (by have := hr.2.1; omega) (.int .u8 (cc.toNat : Int))
    rw [← bv_set] at hrow
    refine ⟨hgb, fun _ => ⟨b, o, rfl, hb, fun i hi => ?_⟩⟩
    have hi' : i < L.length := by simpa using hi
    obtain ⟨z0, z1, z2⟩ := z i hi' (by omega)
    have keep : ∀ j, (w.setCell ⟨g, p + q, none⟩ (.int .u8 (cc.toNat : Int))).cell? ⟨b, j, none⟩ = w.cell? ⟨b, j, none⟩ := fun j => World.cell?_of_block (a := ⟨b, j, none⟩) (hgr.block b hb fun e => hgb e.symm)
    by_cases e : i = k
    · subst e
      rw [List.getElem_set_self]
      refine ⟨(keep _).trans z0, (keep _).trans z1, .slice (some ⟨g, p, none⟩) L[i].tag.length tc, (keep _).trans hz.2.2, ?_⟩
      exact (Part.of_row hrow hl fun ad e => by have := (hrow.lt ad e).2; simpa using this)
    · rw [List.getElem_set_ne (Ne.symm e)]
      refine ⟨(keep _).trans z0, (keep _).trans z1, vs[i]'(by omega), (keep _).trans z2, ?_⟩
      obtain ⟨tA2, tc2, hv2, hr2, ha2, hl2⟩ := h4 i hi' (by omega)
      have hne : ∀ ad, tA2 = some ad → ad.block ≠ g := fun ad e2 => by
        subst e2
        rcases Nat.lt_or_ge i k with hlt | hge
        · have := List.pairwise_iff_getElem.1 h5 i k (by omega) (by omega) hlt
          exact this _ _ _ _ _ _ hv2 hv
        · have := List.pairwise_iff_getElem.1 h5 k i (by omega) (by omega) (by omega)
          exact fun e => this _ _ _ _ _ _ hv hv2 e.symm
      rw [hv2]
      have hr3 := hr2.far (p := ⟨g, p + q, none⟩) (fun ad e => hne ad e) (.int .u8 (cc.toNat : Int))
      exact Part.of_row hr3 hl2 fun ad e => by have := (hr3.lt ad e).2; simpa using this
  · refine fun _ => ⟨b, o, rfl, hb, fun i hi => ?_⟩
    have hi' : i < L.length := by simpa using hi
    obtain ⟨z0, z1, z2⟩ := z i hi' (by omega)
    have hp : Part (w.setCell ⟨b, o + k * 3, none⟩ (.int .i64 s)) (· < w.heap.size) (vs[i]'(by omega)) L[i].tag := by
      obtain ⟨tA2, tc2, hv2, hr2, ha2, hl2⟩ := h4 i hi' (by omega)
      rw [hv2]
      have hr3 := hr2.far (p := ⟨b, o + k * 3, none⟩) (fun ad e => (ha2 ad e ⟨b, o, none⟩ rfl : ad.block ≠ b)) (.int .i64 s)
      exact Part.of_row hr3 hl2 fun ad e => by have := (hr3.lt ad e).2; simpa using this
    have keep : ∀ j, j ≠ o + k * 3 → (w.setCell ⟨b, o + k * 3, none⟩ (.int .i64 s)).cell? ⟨b, j, none⟩ = w.cell? ⟨b, j, none⟩ := fun j _ => World.cell?_setCell_other _ ⟨b, o + k * 3, none⟩ ⟨b, j, none⟩ _ (by simp)
    by_cases e : i = k
    · subst e
      rw [List.getElem_set_self]
      exact ⟨World.cell?_setCell_same w _ _ z0, (keep _ (by omega)).trans z1, _, (keep _ (by omega)).trans z2, hp⟩
    · rw [List.getElem_set_ne (Ne.symm e)]
      exact ⟨(keep _ (by omega)).trans z0, (keep _ (by omega)).trans z1, _, (keep _ (by omega)).trans z2, hp⟩
theorem xor_ne {a b : UInt8} (h : b ≠ 0) : a ^^^ b ≠ a := fun e => h (by
  have : a ^^^ (a ^^^ b) = a ^^^ a := by rw [e]
  rw [← UInt8.xor_assoc, UInt8.xor_self, UInt8.zero_xor] at this
  exact this)
/-- What Verify tells of the turned records. -/
theorem turned_call {A : Option Addr} {n c : Nat} {key : List UInt8} {w w5 : World} {x : Ch} {k lc bc : Nat} {lA bA : Option Addr} {r : Rec} (h1 : Reads w w.heap.size 1 A n (bv key)) (hn : n ≤ 256) (hg : Good key x) (hb : Below w.heap.size w w5) (hk : k < x.recs.length) {base : Nat} (hbr : Row w5 base 1 bA x.btag.length bc (bv x.btag))
    (hr : Recs w5 (· < w5.heap.size) lA (x.recs.set k r)) (hno : ¬ verOk key (lastSeq x.bseq (x.recs.take k)) (lastTag x.btag (x.recs.take k)) r) (hs1 : -9223372036854775808 ≤ r.seq) (hs2 : r.seq ≤ 9223372036854775807) (ht : r.text.size ≤ 1000) (htg : r.tag.length ≤ 256) :
    Calls Try.prog 30 #[.slice A n c, .int .i64 x.bseq, .slice bA x.btag.length bc, .slice lA x.recs.length lc] w5 fun e w' => e = .returned (.tuple #[.int .i64 k, .int .i64 22]) ∧ Below w5.heap.size w5 w' := by
  have hl : (x.recs.set k r).length = x.recs.length := List.length_set
  have hlen := hg.len
  have hvs := ver_seq _ _ _ _ hg.ver_
  have hb0 := hg.b0
  have htop := hg.top
  have hv := (ver_turned hg.ver_ hk).2 r (by rw [hg.key_]; exact hno)
  rw [hg.key_] at hv
  have h := Verify_any A n c key x.bseq (.slice bA x.btag.length bc) x.btag lA lc (x.recs.set k r) w5 ((h1.below hb).more hb.size) (by omega) (by omega) (by omega) (Part.of_row hbr (Nat.le_trans hg.bt (by decide)) fun ad e => (hbr.lt ad e).2) (Nat.le_trans hg.bt (by decide)) hr (by omega) (fun y hy => by
    rcases List.mem_or_eq_of_mem_set hy with hy | rfl
    · have h1 := hvs.2 y hy
      have h2 := hg.ok y hy
      exact ⟨by omega, by omega, by omega, by omega⟩
    · exact ⟨hs1, hs2, ht, htg⟩)
  rw [hl, hv] at h
  refine h.mono fun e w' h => ⟨?_, h.2⟩
  rw [h.1]
  unfold verV
  rw [if_neg (by omega)]
/-- Behind j texts. -/
def TurnRel (w : World) (cb : Nat) (key : List UInt8) (len most : Nat) (s13 : Value) (wr : World) : Prop :=
  ∃ (j : Nat) (x : Ch) (X : Nat → Prop), j ≤ len ∧ j ≤ most ∧ s13 = .int .i64 j ∧ ChainAt wr cb X x ∧ Good key x ∧ x.end_.seq ≤ j ∧ (∀ k, X k → w.heap.size ≤ k) ∧ Below w.heap.size w wr
theorem turn_next {w wr w2 : World} {cb : Nat} {key : List UInt8} {len most j : Nat} {x : Ch} {X X' : Nat → Prop} {s : ByteArray} (hj : j < len) (hm : j < most) (hcb : w.heap.size ≤ cb) (hg : Good key x) (he : x.end_.seq ≤ j) (hX : ∀ k, X k → w.heap.size ≤ k) (hb : Below w.heap.size w wr) (h : ChainAt w2 cb X' (x.put s)) (hgr : Grew (fun k => k = cb ∨ X k) wr w2) (hX' : ∀ k, X' k → (X k ∨ wr.heap.size ≤ k) ∧ k < w2.heap.size) : TurnRel w cb key len most (.int .i64 ((j : Int) + 1)) w2 := by
  have hs := hb.size
  refine ⟨j + 1, x.put s, X', by omega, by omega, by go_num, h, (hg.put s).1, by have := (hg.put s).2; omega, fun k hk => ?_, hb.trans (hgr.below (B := w.heap.size) hs fun k _ hk => ?_)⟩
  · rcases (hX' k hk).1 with h | h
    · exact hX k h
    · omega
  · rcases hk with rfl | hk
    · exact hcb
    · exact hX k hk
set_option maxRecDepth 100000 in
set_option maxHeartbeats 8000000 in
theorem AuditTurned_walk (A : Option Addr) (n c : Nat) (key : List UInt8) (TA : Option Addr) (tn tc : Nat) (texts : List ByteArray) (at_ by_ seq : Int) (w : World)
    (h1 : Reads w w.heap.size 1 A n (bv key)) (_h1c : n ≤ c ∧ c ≤ 140737488351232) (ht : texts.length = tn) (hT : Strs w (· < w.heap.size) TA texts) (hTc : tn ≤ tc ∧ tc ≤ 140737488351232 ∧ ∀ s ∈ texts, s.size ≤ 140737488351232)
    (hat : (Lit.int .i64 at_).wf = true) (hby : (Lit.int .u8 by_).wf = true) (hsq : (Lit.int .i64 seq).wf = true) :
    Calls Try.prog 11 #[.slice A n c, .slice TA tn tc, .int .i64 at_, .int .u8 by_, .int .i64 seq] w fun e w' => e = .returned (.bool true) ∧ Below w.heap.size w w' := by
  subst ht
  have hn0 : key.length = n := by have := h1.1; rw [length_bv] at this; omega
  have hsm := Lib.hid (small19_any w)
  have HN := Lib.hid (fun w' (h : Below w.heap.size w w') => aNew_any A n c w.heap.size key w' (h1.below h) h.size (by omega))
  have H1 := Lib.hid h1
  have HT := Lib.hid hT
  have HTS := Lib.hid hTc.2.2
  have HN0 := Lib.hid hn0
  have htl : texts.length ≤ 140737488351232 := Nat.le_trans hTc.1 hTc.2.1
  have hat' : -9223372036854775808 ≤ at_ ∧ at_ ≤ 9223372036854775807 := by
    have := hat
    simp [Lit.wf, IntKind.min, IntKind.max, IntKind.bits, IntKind.signed] at this
    omega
  obtain ⟨bb, rfl⟩ : ∃ bb : UInt8, by_ = (bb.toNat : Int) := by
    have := hby
    simp [Lit.wf, IntKind.min, IntKind.max, IntKind.bits, IntKind.signed] at this
    exact ⟨b8 by_, (b8_toNat (by omega) (by omega)).symm⟩
  have HSQ : Hid (-9223372036854775808 ≤ seq ∧ seq ≤ 9223372036854775807) := Lib.hid (by
    have := hsq
    simp [Lit.wf, IntKind.min, IntKind.max, IntKind.bits, IntKind.signed] at this
    omega)
  clear h1 hT hn0 hat hby hTc hsq
  go_enter Try.func11, Try.ntmps11
  go_wp2_with fail
  refine hsm.out.mono ?_
  rintro e w1 ⟨rfl, hb1⟩
  have HB1 := Lib.hid hb1
  have HC := Lib.hid (HN.out w1 hb1)
  clear hb1 hsm HN
  go_wp2_with fail
  refine HC.out.mono ?_
  rintro e w2 ⟨cb, rfl, hcb, hch, hb2⟩
  have hs1 := HB1.out.size
  have HB2 := Lib.hid (HB1.out.trans (hb2.mono hs1))
  have hs2 := hb2.size
  have HCH := Lib.hid hch
  clear hb2 hch HC
  by_cases hk : 256 < n
  · have e1 : decide (256 < (n : Int)) = true := by simp; omega
    go_wp2_with fail
    go_ret
    exact ⟨rfl, HB2.out⟩
  · have e1 : decide (256 < (n : Int)) = false := by simp; omega
    have hkn : key.length ≤ 140737488351232 := by have := HN0.out; omega
    have hcw : w.heap.size ≤ cb := by omega
    go_wp2_with fail
    go_loopw [13] (fun s13 wr => TurnRel w cb key texts.length 12 s13 wr) (fun i _ => 12 - (intOf i).toNat)
    case atStart => exact ⟨0, ⟨key, 0, [], []⟩, _, Nat.zero_le _, Nat.zero_le _, rfl, HCH.out, Good.new key, (show (0 : Int) ≤ ((0 : Nat) : Int) from Int.le_refl _), fun k hk => by omega, HB2.out⟩
    case round =>
      clear HCH HB2
      obtain ⟨j, x, X, hj1, hj2, rfl, hch, hgd, hes, hX, hbel⟩ := hrel
      have hsz := hbel.size
      have HCH := Lib.hid hch
      have HGD := Lib.hid hgd
      have HX := Lib.hid hX
      have HBEL := Lib.hid hbel
      have HES := Lib.hid hes
      clear hes
      by_cases hin : j < texts.length ∧ j < 12
      · obtain ⟨hlt, h12⟩ := hin
        obtain ⟨sb, so, hTA, hTR, hTc⟩ := (HT.out.keep fun k hk => hbel.block k hk) (by omega)
        have c0 := hTc j hlt
        have hsz0 := HTS.out texts[j] (List.getElem_mem hlt)
        generalize texts[j] = s at c0 hsz0
        clear hTc hch hgd hX hbel
        subst hTA
        have i1 : (0 : Int) ≤ (j : Int) := by omega
        have i2 : (j : Int) < (texts.length : Int) := by omega
        by_cases h1000 : s.size ≤ 1000
        · have e2 : decide ((s.size : Int) ≤ 1000) = true := by simp; omega
          go_wp2_with fail
          refine (Put_any cb X key x s wr HCH.out HGD.out hkn hsz0).mono ?_
          rintro e w3 ⟨v, X', rfl, hch3, hg3, hX3⟩
          have HREL := Lib.hid (turn_next (s := s) hlt h12 hcw HGD.out HES.out HX.out HBEL.out hch3 hg3 hX3)
          clear hch3 hg3 hX3
          go_wp2_with fail
          go_roundw
          case rel => exact HREL.out
          case measure => simp [intOf]; omega
        · have e2 : decide ((s.size : Int) ≤ 1000) = false := by simp; omega
          go_wp2_with fail
          go_roundw
          case rel => exact ⟨j + 1, x, X, by omega, by omega, by go_num, HCH.out, HGD.out, by have := HES.out; omega, HX.out, HBEL.out⟩
          case measure => simp [intOf]; omega
      · have hout : ¬ j < texts.length ∨ (j < texts.length ∧ ¬ j < 12) := by omega
        clear hin hch hgd hX hbel
        rcases hout with hlt | ⟨hlt, h12⟩
        all_goals
          go_wp2_with fail
          refine (Base_any cb X x wr HCH.out).mono ?_
          rintro e w3 ⟨bA, bc, rfl, hbrow, hb3⟩
          have hs3 := hb3.size
          have HB3 := Lib.hid (HBEL.out.trans (hb3.mono hsz))
          have hp3 := HGD.out
          have HC := Lib.hid (ListP_any cb X x w3 (HCH.out.new hb3) (Nat.le_trans hp3.len (by decide)) (fun r hr => by have := (hp3.ok r hr).2; omega))
          have HBROW := Lib.hid hbrow
          clear hb3 hbrow hp3
          go_wp2_with fail
          refine HC.out.mono ?_
          rintro e w4 ⟨lA, lc, rfl, hrow4, hb4⟩
          have hs4 := hb4.size
          have HB4 := Lib.hid (HB3.out.trans (hb4.mono (by omega)))
          have HROW4 := Lib.hid hrow4
          have HBR4 := Lib.hid (HBROW.out.below hb4 (Nat.le_refl _))
          clear hb4 hrow4 HC HB3
          by_cases h0 : x.recs.length = 0
          · have e3 : ((x.recs.length : Int) == 0) = true := by rw [beq_iff_eq]; omega
            go_wp2_with fail
            go_ret
            exact ⟨rfl, HB4.out⟩
          · have e3 : ((x.recs.length : Int) == 0) = false := by rw [beq_eq_false_iff_ne]; omega
            by_cases ha : at_ < 0
            · have e4 : decide (at_ < 0) = true := by simp; omega
              go_wp2_with fail
              go_ret
              exact ⟨rfl, HB4.out⟩
            · have e4 : decide (at_ < 0) = false := by simp; omega
              obtain ⟨a, rfl⟩ : ∃ a : Nat, at_ = a := ⟨at_.toNat, by omega⟩
              obtain ⟨k, hk'⟩ : ∃ k, a % x.recs.length = k := ⟨_, rfl⟩
              obtain ⟨p, hp'⟩ : ∃ p, a % 32 = p := ⟨_, rfl⟩
              have hkl : k < x.recs.length := by rw [← hk']; exact Nat.mod_lt _ (by omega)
              have hpl : p < 32 := by omega
              have m1 : (a : Int) % (x.recs.length : Int) = (k : Int) := by rw [← hk']; exact (Int.natCast_emod _ _).symm
              have m2 : (a : Int) % 32 = (p : Int) := by rw [← hp']; exact (Int.natCast_emod _ _).symm
              have M1 := Lib.hid m1
              have M2 := Lib.hid m2
              have i1 : (0 : Int) ≤ (k : Int) := by omega
              have i2 : (k : Int) < (x.recs.length : Int) := by omega
              have i3 : (0 : Int) ≤ (p : Int) := by omega
              have i4 : (p : Int) < 32 := by omega
              clear hk' hp' m1 m2
              obtain ⟨lb, lo, tA, tc, hA, hlb, hbase, hfz, hc0, hc2, htr, htag, hseq⟩ := HROW4.out.at_ hkl
              have hok := HGD.out.ok x.recs[k] (List.getElem_mem hkl)
              have hvt := (ver_turned HGD.out.ver_ hkl).1
              have hvs := (ver_seq _ _ _ _ HGD.out.ver_).2 x.recs[k] (List.getElem_mem hkl)
              generalize x.recs[k] = r at hc0 hc2 htr htag hseq hok hvt hvs
              obtain ⟨rs, rt, rg⟩ := r
              simp only at hc0 hc2 htr htag hseq hok hvt hvs
              rw [hok.2] at hc2 htr htag
              obtain ⟨g, q, hgA, _, hgc⟩ := htr.reads.2 (by omega)
              subst hA hgA
              have m1 := M1.out
              have HFIN := Lib.hid (fun (w5 : World) (r : Rec) (hb : Below w.heap.size w w5) {base : Nat} (hbr : Row w5 base 1 bA x.btag.length bc (bv x.btag)) => turned_call (c := c) (k := k) (lc := lc) (lA := some ⟨lb, lo, none⟩) (r := r) H1.out (by omega) HGD.out hb hkl hbr)
              have HTAG := Lib.hid htag
              have HSEQ := Lib.hid hseq
              have HVT := Lib.hid hvt
              have HTR := Lib.hid htr
              have HOK := Lib.hid hok
              have HVS := Lib.hid hvs
              have hgl : g < w4.heap.size := (htr.lt _ rfl).2
              have hgb : w3.heap.size ≤ g := (htr.lt _ rfl).1
              clear htag hseq hvt htr hok hvs HROW4
              by_cases hbb : bb = 0
              · subst hbb
                by_cases hq : seq = rs
                · have e6 : (seq == rs) = true := by rw [beq_iff_eq]; exact hq
                  go_wp2_with fail
                  go_ret
                  exact ⟨rfl, HB4.out⟩
                · have e6 : (seq == rs) = false := by rw [beq_eq_false_iff_ne]; exact hq
                  go_upto_region 22 with (fail)
                  refine name_world fun w5 y1 y2 y3 y4 => ?_
                  have hb5 : Below w.heap.size w w5 := below_heap ((HB4.out).setCell (p := ⟨lb, lo + k * 3, none⟩) (by show w.heap.size ≤ lb; omega) (.int .i64 seq)) y1 y2 y3 y4
                  have hs5 : w5.heap.size = w4.heap.size := by rw [y1]; simp
                  have hr5 : Recs w5 (· < w5.heap.size) (some ⟨lb, lo, none⟩) (x.recs.set k ⟨seq, rt, rg⟩) := (((HSEQ.out seq).keep fun k _ => by rw [y1]).mono fun k hk => by omega)
                  have hbr5 : Row w5 wr.heap.size 1 bA x.btag.length bc (bv x.btag) := (HBR4.out.far (p := ⟨lb, lo + k * 3, none⟩) (fun ad e => by have := (HBROW.out.lt ad e).2; show ad.block ≠ lb; omega) (.int .i64 seq)).of_block fun ad e => by rw [y1]
                  have hno : ¬ verOk key (lastSeq x.bseq (x.recs.take k)) (lastTag x.btag (x.recs.take k)) ⟨seq, rt, rg⟩ := fun hv => hq (hv.2.1.trans HVT.out.2.1.symm)
                  have hok5 := HOK.out
                  have hsq := HSQ.out
                  have HC := Lib.hid (HFIN.out w5 ⟨seq, rt, rg⟩ hb5 hbr5 hr5 hno (by simp only; omega) (by simp only; omega) (by simp only; omega) (by simp only; omega))
                  have HB5 := Lib.hid hb5
                  clear y1 y2 y3 y4 hr5 hbr5 hno hok5 hb5 hs5 hc0 hc2 hsq
                  go_wp2_with fail
                  refine HC.out.mono ?_
                  rintro e w6 ⟨rfl, hb6⟩
                  have HB6 := Lib.hid (HB5.out.trans (hb6.mono HB5.out.size))
                  clear hb6 HC
                  go_wp2_with fail
                  go_ret
                  exact ⟨rfl, HB6.out⟩
              · have e5 : ((bb.toNat : Int) != 0) = true := by
                  simp
                  exact fun h => hbb (UInt8.toNat_inj.1 (by simpa using h))
                have m2 := M2.out
                have m3 : (a : Int).tmod 32 = (p : Int) := by rw [Int.tmod_eq_emod_of_nonneg (by omega)]; exact m2
                have hgp := hgc p _ (bv_at rg p (by have := HOK.out.2; omega))
                have hgf := HTR.out.free (j := p) (by have := HTR.out.2.1; omega)
                have hox := oct_xor (rg[p]'(by have := HOK.out.2; omega)) bb
                clear hgc
                go_wp2_with fail
                have cw : ∀ d o u a, ({ heap := w4.heap, tape := w4.tape, drawn := d, os := o, output := u } : World).cell? a = w4.cell? a := fun _ _ _ _ => rfl
                go_still_tail 18, (by kernel_rfl)
                repeat still_step
                change wpList _ _ _ _ _ w4.drew
                clear cw
                go_upto_region 22 with (fail)
                refine name_world fun w5 y1 y2 y3 y4 => ?_
                have hpg : p < rg.length := by have := HOK.out.2; omega
                have hb5 : Below w.heap.size w w5 := below_heap ((HB4.out.drew).setCell (p := ⟨g, q + p, none⟩) (by show w.heap.size ≤ g; omega) (.int .u8 ((rg[p] ^^^ bb).toNat : Int))) y1 y2 y3 y4
                have hs5 : w5.heap.size = w4.heap.size := by rw [y1]; simp
                have hr5 : Recs w5 (· < w5.heap.size) (some ⟨lb, lo, none⟩) (x.recs.set k ⟨rs, rt, rg.set p (rg[p] ^^^ bb)⟩) := by
                  have h := (HTAG.out g q p (rg[p] ^^^ bb) rfl hpl).2
                  exact (h.keep fun k _ => by rw [y1]; rfl).mono fun k hk => by omega
                have hbr5 : Row w5 wr.heap.size 1 bA x.btag.length bc (bv x.btag) := (HBR4.out.far (p := ⟨g, q + p, none⟩) (fun ad e => by have := (HBROW.out.lt ad e).2; show ad.block ≠ g; omega) (.int .u8 ((rg[p] ^^^ bb).toNat : Int))).of_block fun ad e => by rw [y1]; rfl
                have hno : ¬ verOk key (lastSeq x.bseq (x.recs.take k)) (lastTag x.btag (x.recs.take k)) ⟨rs, rt, rg.set p (rg[p] ^^^ bb)⟩ := fun hv => by
                  have h1 := HVT.out.2.2
                  have h2 := hv.2.2
                  simp only at h1 h2
                  have hh : rg.set p (rg[p] ^^^ bb) = rg := h2.trans (by rw [h1, HGD.out.key_])
                  have h3 : (rg.set p (rg[p] ^^^ bb))[p]'(by simpa using hpg) = rg[p] := by simp only [hh]
                  rw [List.getElem_set_self] at h3
                  exact xor_ne hbb h3
                have hbs := HVS.out
                have hb0 := HGD.out.b0
                have htop := HGD.out.top
                have hok5 := HOK.out
                have HC := Lib.hid (HFIN.out w5 ⟨rs, rt, rg.set p (rg[p] ^^^ bb)⟩ hb5 hbr5 hr5 hno (by simp only; omega) (by simp only; omega) (by simp only; omega) (by simp only [List.length_set]; omega))
                have HB5 := Lib.hid hb5
                clear y1 y2 y3 y4 hr5 hbr5 hno hbs hok5 hb5 hs5 hgp hgf hox hc0 hc2
                go_wp2_with fail
                refine HC.out.mono ?_
                rintro e w6 ⟨rfl, hb6⟩
                have HB6 := Lib.hid (HB5.out.trans (hb6.mono HB5.out.size))
                clear hb6 HC
                go_wp2_with fail
                go_ret
                exact ⟨rfl, HB6.out⟩
end Go.Proofs.Ytbjlmodabiadfaa
