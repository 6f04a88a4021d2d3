/- THE WALK of the law RadixGoes. -/
import Derived.Test.YtiijjpjkfiookaaDoorRadNum
import Derived.Test.YtiijjpjkfiookaaDoorRadAdd
import Derived.Test.YtiijjpjkfiookaaDoorLent
import Derived.Test.YtiijjpjkfiookaaDoorRow2
namespace Go.Proofs.YtiijjpjkfiookaaDoor
open Go.RowKit

theorem dbl_next {p q t x : Nat} (_hp : 0 < p) (hx : x = 2 ^ t * q % p) : (x + x) % p = 2 ^ (t + 1) * q % p := by
  have e : 2 ^ (t + 1) * q = 2 ^ t * q + 2 ^ t * q := by rw [Nat.pow_succ, Nat.mul_right_comm, Nat.mul_two]
  rw [e, hx, ← Nat.add_mod]
theorem dbl_end {p q c x y : Nat} (hx : x = 2 ^ 8 * q % p) (hy : y = c % p) : (x + y) % p = (256 * q + c) % p := by
  rw [hx, hy, ← Nat.add_mod]
theorem addV_nat {a b p : Nat} {k : Int} (h : powV k = p) : addV (a : Int) (b : Int) k = (((a + b) % p : Nat) : Int) := by
  unfold addV; rw [h]; push_cast; rfl
theorem both_nat {a b p : Nat} {k : Int} (h : powV k = p) (ha : a < p) (hb : b < p) : bothB (a : Int) (b : Int) k = true := bothB_mk (by omega) (by omega) (by omega) (by omega)
theorem restD_append (p : Nat) (a b : List UInt8) (i : Nat) (h : i < b.length) : restD p (a ++ b.take (i + 1)) = (256 * restD p (a ++ b.take i) + b[i].toNat) % p := by
  rw [List.take_succ_eq_append_getElem h, ← List.append_assoc, restD_snoc]
theorem restD_one (p : Nat) (c : UInt8) : restD p [c] = c.toNat % p := by simp [restD]

/-- Behind i bytes of b. -/
def GoRel (w1 : World) (p : Nat) (a b : List UInt8) (i r : Value) (wr : World) : Prop :=
  ∃ j q : Nat, j ≤ b.length ∧ i = .int .i64 j ∧ r = .int .i64 q ∧ q < p ∧ q = restD p (a ++ b.take j) ∧ Below w1.heap.size w1 wr
/-- Behind t doublings. -/
def DblRel (w1 : World) (p q : Nat) (s t : Value) (wr : World) : Prop :=
  ∃ j x : Nat, j ≤ 8 ∧ t = .int .i64 j ∧ s = .int .i64 x ∧ x < p ∧ x = 2 ^ j * q % p ∧ Below w1.heap.size w1 wr

theorem sub_one {w : World} {B0 n j : Nat} {bb bo : Nat} {l : List UInt8} (hr : Reads w B0 1 (some ⟨bb, bo, none⟩) n (bv l)) (hj : j < l.length) : Reads w B0 1 (some ⟨bb, bo + j, none⟩) 1 (bv [l[j]]) := by
  have hl := hr.1
  rw [length_bv] at hl
  obtain ⟨b, o, e, hlt, hc⟩ := hr.2 (by omega)
  simp only [Option.some.injEq, Addr.mk.injEq, and_true] at e
  obtain ⟨rfl, rfl⟩ := e
  refine ⟨by rw [length_bv]; rfl, fun _ => ⟨bb, bo + j, rfl, hlt, fun i u hu => ?_⟩⟩
  obtain ⟨hi, hv⟩ := List.getElem?_eq_some_iff.1 hu
  rw [length_bv] at hi
  have hi0 : i = 0 := by simp at hi; exact hi
  subst hi0
  have h := hc j _ (bv_at l j hj)
  rw [← hv]
  simpa [bv] using h

set_option maxRecDepth 100000 in
set_option maxHeartbeats 4000000 in
theorem RadixGoes_walk (A : Option Addr) (n c : Nat) (a : List UInt8) (B : Option Addr) (m d : Nat) (b : List UInt8) (k : Int) (w : World) (hra : Reads w w.heap.size 1 A n (bv a)) (hc : n ≤ c ∧ c ≤ 140737488351232)
    (hrb : Reads w w.heap.size 1 B m (bv b)) (hd : m ≤ d ∧ d ≤ 140737488351232) (_h3 : (Lit.int .i64 k).wf = true) :
    Calls Tryd.prog 5 #[.slice A n c, .slice B m d, .int .i64 k] w fun e w' => e = .returned (.bool true) ∧ Below w.heap.size w w' := by
  obtain ⟨hnc, hcc⟩ := hc
  obtain ⟨hmd, hdd⟩ := hd
  have hla : a.length = n := by have := hra.1; rw [length_bv] at this; omega
  have hlb : b.length = m := by have := hrb.1; rw [length_bv] at this; omega
  by_cases hn : (64 : Int) < n
  · clear hla hlb
    go_enter Tryd.func5, Tryd.ntmps5
    go_wp2_with fail
    refine (small09_any _).mono ?_
    rintro e w1 ⟨rfl, hb1⟩
    go_wp2_with fail
    go_ret
    exact ⟨rfl, hb1⟩
  by_cases hm : (64 : Int) < m
  · clear hla hlb
    go_enter Tryd.func5, Tryd.ntmps5
    go_wp2_with fail
    refine (small09_any _).mono ?_
    rintro e w1 ⟨rfl, hb1⟩
    go_wp2_with fail
    go_ret
    exact ⟨rfl, hb1⟩
  obtain ⟨i0, hi, hz0, hz1, hz2⟩ := info_parts byte_info
  have HI := Lib.hid hi
  have HZ0 := Lib.hid hz0
  have HZ1 := Lib.hid hz1
  have HZ2 := Lib.hid hz2
  have HRA := Lib.hid hra
  have HRB := Lib.hid hrb
  clear hi hz0 hz1 hz2 hra hrb
  have hcase : (powV k = 0) ∨ (∃ p : Nat, powV k = p ∧ 0 < p ∧ p ≤ 10000000000000000) := powV_range k
  rcases hcase with hp | ⟨p, hp, hp0, hp9⟩
  · have H1 := Lib.hid (restR_no (l := a ++ b) hp)
    have H2 := Lib.hid (restR_no (l := a) hp)
    have HP := Lib.hid hp
    clear hp hla hlb
    go_enter Tryd.func5, Tryd.ntmps5
    go_wp2_with fail
    refine (small09_any _).mono ?_
    rintro e w1 ⟨rfl, hb1⟩
    have hs1 := hb1.size
    have HA1 := Lib.hid (HRA.out.below hb1)
    have HB1 := Lib.hid (HRB.out.below hb1)
    go_wp2_with (first
      | (at_builtin; refine wpList_append_row rfl (.tmp 32) (.tmp 33) rfl Tryd.underlying32 HI.out HZ0.out HZ1.out HZ2.out rfl (by decide) rfl (Row.lit w1 #[] 5 (n := 0) (base := w1.heap.size) (size := 1) rfl (Nat.le_refl _) (by unfold maxLen; omega)) rfl (HA1.out.alloc (by omega) _) (bv_one _) (by unfold maxLen; omega) (by omega) (by simp) ?_; intro A7 c7 w7 hrow7 hgr7 hat7; have HW7 := Lib.hid (show Below w1.heap.size w1 w7 from ((Below.refl _ _).alloc (Nat.le_refl _) _).grown hgr7 (by simp) (fun k hk => by simp at hk; omega)); have HR7 := Lib.hid (show Row w7 w1.heap.size 1 A7 n c7 (bv a) from by simpa using hrow7); clear hrow7 hgr7 hat7)
      | (at_builtin; refine wpList_append_row rfl (.tmp 34) (.tmp 35) rfl Tryd.underlying32 HI.out HZ0.out HZ1.out HZ2.out rfl (by decide) rfl HR7.out rfl (HB1.out.below (HW7.out.mono hs1)) (bv_one _) (by unfold maxLen; omega) (by omega) HW7.out.size ?_; intro A8 c8 w8 hrow8 hgr8 hat8; have HW8 := Lib.hid (show Below w1.heap.size w1 w8 from HW7.out.grown hgr8 HW7.out.size HR7.out.blocks); have HR8 := Lib.hid (show Row w8 w1.heap.size 1 A8 (n + m) c8 (bv (a ++ b)) from by rw [bv_append]; exact hrow8); have hs8 := HW8.out.size; clear hrow8 hgr8 hat8))
    refine (Rest_any _ _ _ _ (a ++ b) k _ HR8.out.reads (Nat.le_refl _) HR8.out.2.1).mono ?_
    rw [H1.out]
    rintro e w9 ⟨rfl, hb9⟩
    have hb19 := HW8.out.trans (hb9.mono hs8)
    have HA9 := Lib.hid (HA1.out.below (hb19.mono hs1))
    have hs9 := hb9.size
    go_wp2_with fail
    refine (Rest_any _ _ _ _ a k _ HA9.out (Nat.le_trans hs1 hb19.size) hnc).mono ?_
    rw [H2.out]
    rintro e w10 ⟨rfl, hb10⟩
    have hb := thenB hb1 (thenB hb19 hb10)
    go_wp2_with fail
    refine (Power_any _ _).mono ?_
    rw [HP.out]
    rintro e w11 ⟨rfl, hb11⟩
    go_wp2_with fail
    go_ret
    exact ⟨rfl, thenB hb hb11⟩
  · have HP := Lib.hid hp
    have H2 := Lib.hid (restR_ok (l := a) hp hp0 (by omega))
    have hpa := restD_lt hp0 a
    by_cases hnm : 64 < n + m
    · have H1 := Lib.hid (restR_long (l := a ++ b) (k := k) (by omega) (by simp; omega))
      clear hp hla hlb
      go_enter Tryd.func5, Tryd.ntmps5
      go_wp2_with fail
      refine (small09_any _).mono ?_
      rintro e w1 ⟨rfl, hb1⟩
      have hs1 := hb1.size
      have HA1 := Lib.hid (HRA.out.below hb1)
      have HB1 := Lib.hid (HRB.out.below hb1)
      go_wp2_with (first
        | (at_builtin; refine wpList_append_row rfl (.tmp 32) (.tmp 33) rfl Tryd.underlying32 HI.out HZ0.out HZ1.out HZ2.out rfl (by decide) rfl (Row.lit w1 #[] 5 (n := 0) (base := w1.heap.size) (size := 1) rfl (Nat.le_refl _) (by unfold maxLen; omega)) rfl (HA1.out.alloc (by omega) _) (bv_one _) (by unfold maxLen; omega) (by omega) (by simp) ?_; intro A7 c7 w7 hrow7 hgr7 hat7; have HW7 := Lib.hid (show Below w1.heap.size w1 w7 from ((Below.refl _ _).alloc (Nat.le_refl _) _).grown hgr7 (by simp) (fun k hk => by simp at hk; omega)); have HR7 := Lib.hid (show Row w7 w1.heap.size 1 A7 n c7 (bv a) from by simpa using hrow7); clear hrow7 hgr7 hat7)
        | (at_builtin; refine wpList_append_row rfl (.tmp 34) (.tmp 35) rfl Tryd.underlying32 HI.out HZ0.out HZ1.out HZ2.out rfl (by decide) rfl HR7.out rfl (HB1.out.below (HW7.out.mono hs1)) (bv_one _) (by unfold maxLen; omega) (by omega) HW7.out.size ?_; intro A8 c8 w8 hrow8 hgr8 hat8; have HW8 := Lib.hid (show Below w1.heap.size w1 w8 from HW7.out.grown hgr8 HW7.out.size HR7.out.blocks); have HR8 := Lib.hid (show Row w8 w1.heap.size 1 A8 (n + m) c8 (bv (a ++ b)) from by rw [bv_append]; exact hrow8); have hs8 := HW8.out.size; clear hrow8 hgr8 hat8))
      refine (Rest_any _ _ _ _ (a ++ b) k _ HR8.out.reads (Nat.le_refl _) HR8.out.2.1).mono ?_
      rw [H1.out]
      rintro e w9 ⟨rfl, hb9⟩
      have hb19 := HW8.out.trans (hb9.mono hs8)
      have HA9 := Lib.hid (HA1.out.below (hb19.mono hs1))
      go_wp2_with fail
      refine (Rest_any _ _ _ _ a k _ HA9.out (Nat.le_trans hs1 hb19.size) hnc).mono ?_
      rw [H2.out]
      rintro e w10 ⟨rfl, hb10⟩
      have hb := thenB hb1 (thenB hb19 hb10)
      generalize restD p a = ra
      go_wp2_with fail
      go_ret
      exact ⟨rfl, hb⟩
    · have H1 := Lib.hid (restR_ok (l := a ++ b) hp hp0 (by simp; omega))
      have hpab := restD_lt hp0 (a ++ b)
      have HLB := Lib.hid hlb
      clear hp hla hlb
      go_enter Tryd.func5, Tryd.ntmps5
      go_wp2_with fail
      refine (small09_any _).mono ?_
      rintro e w1 ⟨rfl, hb1⟩
      have hs1 := hb1.size
      have HA1 := Lib.hid (HRA.out.below hb1)
      have HB1 := Lib.hid (HRB.out.below hb1)
      go_wp2_with (first
        | (at_builtin; refine wpList_append_row rfl (.tmp 32) (.tmp 33) rfl Tryd.underlying32 HI.out HZ0.out HZ1.out HZ2.out rfl (by decide) rfl (Row.lit w1 #[] 5 (n := 0) (base := w1.heap.size) (size := 1) rfl (Nat.le_refl _) (by unfold maxLen; omega)) rfl (HA1.out.alloc (by omega) _) (bv_one _) (by unfold maxLen; omega) (by omega) (by simp) ?_; intro A7 c7 w7 hrow7 hgr7 hat7; have HW7 := Lib.hid (show Below w1.heap.size w1 w7 from ((Below.refl _ _).alloc (Nat.le_refl _) _).grown hgr7 (by simp) (fun k hk => by simp at hk; omega)); have HR7 := Lib.hid (show Row w7 w1.heap.size 1 A7 n c7 (bv a) from by simpa using hrow7); clear hrow7 hgr7 hat7)
        | (at_builtin; refine wpList_append_row rfl (.tmp 34) (.tmp 35) rfl Tryd.underlying32 HI.out HZ0.out HZ1.out HZ2.out rfl (by decide) rfl HR7.out rfl (HB1.out.below (HW7.out.mono hs1)) (bv_one _) (by unfold maxLen; omega) (by omega) HW7.out.size ?_; intro A8 c8 w8 hrow8 hgr8 hat8; have HW8 := Lib.hid (show Below w1.heap.size w1 w8 from HW7.out.grown hgr8 HW7.out.size HR7.out.blocks); have HR8 := Lib.hid (show Row w8 w1.heap.size 1 A8 (n + m) c8 (bv (a ++ b)) from by rw [bv_append]; exact hrow8); have hs8 := HW8.out.size; clear hrow8 hgr8 hat8))
      refine (Rest_any _ _ _ _ (a ++ b) k _ HR8.out.reads (Nat.le_refl _) HR8.out.2.1).mono ?_
      rw [H1.out]
      rintro e w9 ⟨rfl, hb9⟩
      have hb19 := HW8.out.trans (hb9.mono hs8)
      have HA9 := Lib.hid (HA1.out.below (hb19.mono hs1))
      go_wp2_with fail
      refine (Rest_any _ _ _ _ a k _ HA9.out (Nat.le_trans hs1 hb19.size) hnc).mono ?_
      rw [H2.out]
      rintro e w10 ⟨rfl, hb10⟩
      have HST := Lib.hid (show GoRel w p a b (.int .i64 0) (.int .i64 (restD p a)) w10 from ⟨0, restD p a, Nat.zero_le _, rfl, rfl, hpa, by rw [List.take_zero, List.append_nil], thenB hb1 (thenB hb19 hb10)⟩)
      generalize restD p a = ra at hpa HST ⊢
      generalize hrab : restD p (a ++ b) = rab at hpab ⊢
      have HRAB := Lib.hid hrab
      clear hrab hb1 hb9 hb10 hb19 HA9 HA1 HB1 HW7 HR7 HW8 HR8 hs8 hs1 H1 H2
      go_wp2_with fail
      go_loopw [10, 12] (fun r i wr => GoRel w p a b i r wr) (fun _ i _ => b.length - (intOf i).toNat)
      case atStart => exact HST.out
      case round =>
        clear HST
        obtain ⟨j, q, hj, rfl, rfl, hqp, hq, hbw⟩ := hrel
        have HQ := Lib.hid hq
        have HBW := Lib.hid hbw
        clear hq hbw
        by_cases hlt : j < m
        · have hjb : j < b.length := by have := HLB.out; omega
          obtain ⟨bb, bo, hB, hbl, -⟩ := HRB.out.2 (by omega)
          have hjd : j < d := by omega
          have HSB := Lib.hid (show Reads w w.heap.size 1 (some ⟨bb, bo, none⟩) m (bv b) from by rw [← hB]; exact HRB.out)
          have HAP := Lib.hid (restD_append p a b j hjb)
          have HCO := Lib.hid (restR_ok (l := [b[j]]) HP.out hp0 (by simp))
          subst hB
          go_wp2_with fail
          go_loopw [13, 14] (fun s t w2 => DblRel w p q s t w2) (fun _ t _ => 8 - (intOf t).toNat)
          case atStart => exact ⟨0, q, by omega, rfl, rfl, hqp, by rw [Nat.pow_zero, Nat.one_mul, Nat.mod_eq_of_lt hqp], HBW.out⟩
          case round =>
            obtain ⟨t, x, ht, rfl, rfl, hxp, hx, hbx⟩ := hrel
            have HX := Lib.hid hx
            have HBX := Lib.hid hbx
            clear hx hbx
            by_cases ht8 : t < 8
            · have HAD := Lib.hid (addR_yes (both_nat (a := x) (b := x) HP.out hxp hxp))
              have HAV := Lib.hid (addV_nat (a := x) (b := x) HP.out)
              have hml := Nat.mod_lt (x + x) hp0
              have HN := Lib.hid (dbl_next hp0 HX.out)
              go_wp2_with fail
              refine (Add_any _ _ _ _).mono ?_
              rw [HAD.out, HAV.out]
              rintro e w3 ⟨rfl, hb3⟩
              have HB3 := Lib.hid (thenB HBX.out hb3)
              generalize (x + x) % p = y at hml HN ⊢
              clear hb3 HAD HAV
              go_wp2_with fail
              go_roundw
              case rel => exact ⟨t + 1, y, by omega, by go_num, rfl, hml, HN.out, HB3.out⟩
              case measure => simp [intOf]; omega
            · obtain rfl : t = 8 := by omega
              have hsx := HBX.out.size
              have HSUB := Lib.hid (sub_one (HSB.out.below HBX.out) hjb)
              go_wp2_with fail
              refine (Rest_any _ 1 _ _ [b[j]] k _ HSUB.out hsx (by omega)).mono ?_
              rw [HCO.out, restD_one]
              rintro e w3 ⟨rfl, hb3⟩
              have HB3 := Lib.hid (thenB HBX.out hb3)
              have hyl := Nat.mod_lt (b[j].toNat) hp0
              have HE := Lib.hid (dbl_end (y := b[j].toNat % p) HX.out rfl)
              generalize b[j].toNat % p = y at hyl HE ⊢
              have HAD := Lib.hid (addR_yes (both_nat (a := x) (b := y) HP.out hxp hyl))
              have HAV := Lib.hid (addV_nat (a := x) (b := y) HP.out)
              have hml := Nat.mod_lt (x + y) hp0
              clear hb3
              go_wp2_with fail
              refine (Add_any _ _ _ _).mono ?_
              rw [HAD.out, HAV.out]
              rintro e w4 ⟨rfl, hb4⟩
              have HB4 := Lib.hid (thenB HB3.out hb4)
              have HZ := Lib.hid (show (x + y) % p = restD p (a ++ b.take (j + 1)) by rw [HE.out, HAP.out, HQ.out])
              generalize (x + y) % p = z at hml HZ ⊢
              clear hb4 HAD HAV HE
              go_wp2_with fail
              go_roundw
              case rel => exact ⟨j + 1, z, by omega, by go_num, rfl, hml, HZ.out, HB4.out⟩
              case measure => simp [intOf]; omega
        · have hjm : j = m := by have := HLB.out; omega
          have hqr : q = rab := by rw [HQ.out, ← HRAB.out, List.take_of_length_le (by have := HLB.out; omega)]
          subst hqr
          subst hjm
          go_wp2_with fail
          go_ret
          exact ⟨rfl, HBW.out⟩
end Go.Proofs.YtiijjpjkfiookaaDoor
