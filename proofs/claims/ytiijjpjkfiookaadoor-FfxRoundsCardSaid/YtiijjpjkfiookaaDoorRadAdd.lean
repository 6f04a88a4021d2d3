/- THE WALKS of radix: sums and differences, of the program and of the reference. -/
import Derived.Test.YtiijjpjkfiookaaDoorRadVal
namespace Go.Proofs.YtiijjpjkfiookaaDoor
open Go.RowKit

/-- Both below the power. -/
def bothB (a b k : Int) : Bool := inB a k && inB b k
theorem bothB_yes {a b k : Int} (h : bothB a b k = true) : 0 ≤ a ∧ a < powV k ∧ 0 ≤ b ∧ b < powV k := by
  unfold bothB inB at h; simp at h; omega
theorem bothB_mk {a b k : Int} (h1 : 0 ≤ a) (h2 : a < powV k) (h3 : 0 ≤ b) (h4 : b < powV k) : bothB a b k = true := by
  unfold bothB inB; simp; omega
theorem bothB_no {a b k : Int} (h : a < 0 ∨ b < 0 ∨ powV k ≤ a ∨ powV k ≤ b) : bothB a b k = false := by
  cases e : bothB a b k with
  | false => rfl
  | true => have := bothB_yes e; omega
theorem bothB_comm (a b k : Int) : bothB b a k = bothB a b k := by unfold bothB; exact Bool.and_comm _ _
theorem powV_le (k : Int) : powV k ≤ 10000000000000000 := by
  by_cases h : 1 ≤ k ∧ k ≤ 16
  · obtain ⟨m, rfl⟩ : ∃ m : Nat, k = m := ⟨k.toNat, by omega⟩
    have h1 : 10 ^ m ≤ 10 ^ 16 := Nat.pow_le_pow_right (by decide) (by omega)
    have e : (10 : Nat) ^ 16 = 10000000000000000 := by decide
    rw [powV_ok (by omega) (by omega)]; omega
  · rw [powV_no h]; omega
/-- Sums and differences. -/
def addV (a b k : Int) : Int := (a + b) % powV k
def subV (a b k : Int) : Int := (a - b + powV k) % powV k
def addR (a b k : Int) : Ending := if bothB a b k = true then .returned (.tuple #[.int .i64 (addV a b k), .int .i64 0]) else .returned (.tuple #[.int .i64 0, .int .i64 1])
def subR (a b k : Int) : Ending := if bothB a b k = true then .returned (.tuple #[.int .i64 (subV a b k), .int .i64 0]) else .returned (.tuple #[.int .i64 0, .int .i64 1])
theorem addR_yes {a b k : Int} (h : bothB a b k = true) : addR a b k = .returned (.tuple #[.int .i64 (addV a b k), .int .i64 0]) := if_pos h
theorem addR_no {a b k : Int} (h : bothB a b k = false) : addR a b k = .returned (.tuple #[.int .i64 0, .int .i64 1]) := if_neg (by rw [h]; decide)
theorem subR_yes {a b k : Int} (h : bothB a b k = true) : subR a b k = .returned (.tuple #[.int .i64 (subV a b k), .int .i64 0]) := if_pos h
theorem subR_no {a b k : Int} (h : bothB a b k = false) : subR a b k = .returned (.tuple #[.int .i64 0, .int .i64 1]) := if_neg (by rw [h]; decide)
theorem mod_low {x p : Int} (h0 : 0 ≤ x) (h : x < p) : x % p = x := Int.emod_eq_of_lt h0 h
theorem mod_high {x p : Int} (h0 : p ≤ x) (h : x < 2 * p) : x % p = x - p := by
  rw [show x = (x - p) + p by omega, Int.add_emod_right, Int.emod_eq_of_lt (by omega) (by omega)]; omega
theorem addV_low {a b k : Int} (h : bothB a b k = true) (h2 : a < powV k - b) : addV a b k = a + b := by
  have := bothB_yes h; exact mod_low (by omega) (by omega)
theorem addV_high {a b k : Int} (h : bothB a b k = true) (h2 : powV k - b ≤ a) : addV a b k = a - (powV k - b) := by
  have := bothB_yes h; unfold addV; rw [mod_high (by omega) (by omega)]; omega
theorem subV_low {a b k : Int} (h : bothB a b k = true) (h2 : a < b) : subV a b k = a + (powV k - b) := by
  have := bothB_yes h; unfold subV; rw [mod_low (by omega) (by omega)]; omega
theorem subV_high {a b k : Int} (h : bothB a b k = true) (h2 : b ≤ a) : subV a b k = a - b := by
  have := bothB_yes h; unfold subV; rw [mod_high (by omega) (by omega)]; omega
theorem addV_in {a b k : Int} (h : bothB a b k = true) : 0 ≤ addV a b k ∧ addV a b k < powV k := by
  have := bothB_yes h; exact ⟨Int.emod_nonneg _ (by omega), Int.emod_lt_of_pos _ (by omega)⟩
theorem addV_comm (a b k : Int) : addV b a k = addV a b k := by unfold addV; rw [Int.add_comm]
theorem addV_assoc (a b c k : Int) : addV a (addV b c k) k = addV (addV a b k) c k := by
  unfold addV; rw [Int.add_emod_emod, Int.emod_add_emod, Int.add_assoc]
theorem sub_add {a b k : Int} (h : bothB a b k = true) : subV (addV a b k) b k = a := by
  have h1 := bothB_yes h
  have h2 := addV_in h
  have h3 : bothB (addV a b k) b k = true := bothB_mk h2.1 h2.2 (by omega) (by omega)
  by_cases h4 : a < powV k - b
  · have e := addV_low h h4
    rw [subV_high h3 (by omega)]; omega
  · have e := addV_high h (by omega)
    rw [subV_low h3 (by omega)]; omega

set_option maxHeartbeats 400000 in
theorem both_any (a b k : Int) (w : World) : Calls Tryd.prog 42 #[.int .i64 a, .int .i64 b, .int .i64 k] w fun e w' => e = .returned (.tuple #[.int .i64 (powV k), .bool (bothB a b k)]) ∧ Below w.heap.size w w' := by
  by_cases h1 : a < 0
  · have HE := Lib.hid (bothB_no (a := a) (b := b) (k := k) (by omega))
    go_enter Tryd.func42, Tryd.ntmps42
    go_wp2_with fail
    refine (Power_any k _).mono ?_
    rintro e w1 ⟨rfl, hb1⟩
    generalize hq : powV k = p
    have HP := Lib.hid hq
    clear hq
    go_wp2_with fail
    go_ret2
    exact ⟨by rw [HE.out, HP.out]; first | done | rfl, hb1⟩
  by_cases h2 : b < 0
  · have HE := Lib.hid (bothB_no (a := a) (b := b) (k := k) (by omega))
    go_enter Tryd.func42, Tryd.ntmps42
    go_wp2_with fail
    refine (Power_any k _).mono ?_
    rintro e w1 ⟨rfl, hb1⟩
    generalize hq : powV k = p
    have HP := Lib.hid hq
    clear hq
    go_wp2_with fail
    go_ret2
    exact ⟨by rw [HE.out, HP.out]; first | done | rfl, hb1⟩
  by_cases h3 : powV k ≤ a
  · have HE := Lib.hid (bothB_no (a := a) (b := b) (k := k) (by omega))
    go_enter Tryd.func42, Tryd.ntmps42
    go_wp2_with fail
    refine (Power_any k _).mono ?_
    rintro e w1 ⟨rfl, hb1⟩
    generalize hq : powV k = p at h3 ⊢
    have HP := Lib.hid hq
    clear hq
    go_wp2_with fail
    go_ret2
    exact ⟨by rw [HE.out, HP.out]; first | done | rfl, hb1⟩
  by_cases h4 : powV k ≤ b
  · have HE := Lib.hid (bothB_no (a := a) (b := b) (k := k) (by omega))
    go_enter Tryd.func42, Tryd.ntmps42
    go_wp2_with fail
    refine (Power_any k _).mono ?_
    rintro e w1 ⟨rfl, hb1⟩
    generalize hq : powV k = p at h3 h4 ⊢
    have HP := Lib.hid hq
    clear hq
    have hdb : decide (b < p) = false := decide_eq_false (by omega)
    go_wp2_with fail
    go_ret2
    exact ⟨by rw [HE.out, HP.out]; first | done | rfl, hb1⟩
  have HE := Lib.hid (bothB_mk (a := a) (b := b) (k := k) (by omega) (by omega) (by omega) (by omega))
  go_enter Tryd.func42, Tryd.ntmps42
  go_wp2_with fail
  refine (Power_any k _).mono ?_
  rintro e w1 ⟨rfl, hb1⟩
  generalize hq : powV k = p at h3 h4 ⊢
  have HP := Lib.hid hq
  clear hq
  have hdb : decide (b < p) = true := decide_eq_true (by omega)
  go_wp2_with fail
  go_ret2
  exact ⟨by rw [HE.out, HP.out]; first | done | rfl, hb1⟩

set_option maxHeartbeats 400000 in
theorem Add_any (a b k : Int) (w : World) : Calls Tryd.prog 22 #[.int .i64 a, .int .i64 b, .int .i64 k] w fun e w' => e = addR a b k ∧ Below w.heap.size w w' := by
  cases h : bothB a b k with
  | false =>
    have HE := Lib.hid (addR_no h)
    go_enter Tryd.func22, Tryd.ntmps22
    go_wp2_with fail
    refine (both_any a b k _).mono ?_
    rw [h]
    rintro e w1 ⟨rfl, hb1⟩
    generalize powV k = p
    go_wp2_with fail
    go_ret2
    exact ⟨HE.out.symm, hb1⟩
  | true =>
    have hp := powV_le k
    obtain ⟨h1, h2, h3, h4⟩ := bothB_yes h
    by_cases hs : a < powV k - b
    · have HE := Lib.hid (addR_yes h)
      have HV := Lib.hid (addV_low h hs)
      go_enter Tryd.func22, Tryd.ntmps22
      go_wp2_with fail
      refine (both_any a b k _).mono ?_
      rw [h]
      rintro e w1 ⟨rfl, hb1⟩
      clear h
      generalize powV k = p at h2 h4 hp hs
      go_wp2_with fail
      go_ret2
      exact ⟨by rw [HE.out, HV.out]; first | done | rfl, hb1⟩
    · have HE := Lib.hid (addR_yes h)
      have HV := Lib.hid (addV_high h (by omega))
      go_enter Tryd.func22, Tryd.ntmps22
      go_wp2_with fail
      refine (both_any a b k _).mono ?_
      rw [h]
      rintro e w1 ⟨rfl, hb1⟩
      clear h
      generalize powV k = p at h2 h4 hp hs HV
      go_wp2_with fail
      go_ret2
      exact ⟨by rw [HE.out, HV.out]; first | done | rfl, hb1⟩

set_option maxHeartbeats 400000 in
theorem Sub_any (a b k : Int) (w : World) : Calls Tryd.prog 27 #[.int .i64 a, .int .i64 b, .int .i64 k] w fun e w' => e = subR a b k ∧ Below w.heap.size w w' := by
  cases h : bothB a b k with
  | false =>
    have HE := Lib.hid (subR_no h)
    go_enter Tryd.func27, Tryd.ntmps27
    go_wp2_with fail
    refine (both_any a b k _).mono ?_
    rw [h]
    rintro e w1 ⟨rfl, hb1⟩
    generalize powV k = p
    go_wp2_with fail
    go_ret2
    exact ⟨HE.out.symm, hb1⟩
  | true =>
    have hp := powV_le k
    obtain ⟨h1, h2, h3, h4⟩ := bothB_yes h
    by_cases hs : a < b
    · have HE := Lib.hid (subR_yes h)
      have HV := Lib.hid (subV_low h hs)
      go_enter Tryd.func27, Tryd.ntmps27
      go_wp2_with fail
      refine (both_any a b k _).mono ?_
      rw [h]
      rintro e w1 ⟨rfl, hb1⟩
      clear h
      generalize powV k = p at h2 h4 hp HV
      go_wp2_with fail
      go_ret2
      exact ⟨by rw [HE.out, HV.out]; first | done | rfl, hb1⟩
    · have HE := Lib.hid (subR_yes h)
      have HV := Lib.hid (subV_high h (by omega))
      go_enter Tryd.func27, Tryd.ntmps27
      go_wp2_with fail
      refine (both_any a b k _).mono ?_
      rw [h]
      rintro e w1 ⟨rfl, hb1⟩
      clear h
      generalize powV k = p at h2 h4 hp
      go_wp2_with fail
      go_ret2
      exact ⟨by rw [HE.out, HV.out]; first | done | rfl, hb1⟩

theorem bothB_and (a b k : Int) : bothB a b k = (inB a k && inB b k) := rfl
set_option maxHeartbeats 400000 in
theorem rAdd_any (a b k : Int) (w : World) : Calls Tryd.prog 26 #[.int .i64 a, .int .i64 b, .int .i64 k] w fun e w' => e = addR a b k ∧ w = w' := by
  have hba := bothB_and a b k
  cases h : bothB a b k with
  | false =>
    have HE := Lib.hid (addR_no h)
    rw [h] at hba
    cases ha : inB a k with
    | false =>
      have HA := Lib.hid ha
      clear hba h ha
      go_enter Tryd.func26, Tryd.ntmps26
      go_wp2_with fail
      refine (in_any a k _).mono ?_
      rw [HA.out]
      rintro e w1 ⟨rfl, rfl⟩
      go_wp2_with fail
      refine (in_any b k _).mono ?_
      rintro e w1 ⟨rfl, rfl⟩
      generalize inB b k = q
      go_wp2_with fail
      go_ret2
      exact ⟨HE.out.symm, rfl⟩
    | true =>
      have hb : inB b k = false := by rw [ha] at hba; simpa using hba.symm
      have HA := Lib.hid ha
      have HB := Lib.hid hb
      clear hba h ha hb
      go_enter Tryd.func26, Tryd.ntmps26
      go_wp2_with fail
      refine (in_any a k _).mono ?_
      rw [HA.out]
      rintro e w1 ⟨rfl, rfl⟩
      go_wp2_with fail
      refine (in_any b k _).mono ?_
      rw [HB.out]
      rintro e w1 ⟨rfl, rfl⟩
      go_wp2_with fail
      go_ret2
      exact ⟨HE.out.symm, rfl⟩
  | true =>
    have hp := powV_le k
    obtain ⟨h1, h2, h3, h4⟩ := bothB_yes h
    rw [h] at hba
    have ha : inB a k = true := by cases e : inB a k with
      | true => rfl
      | false => rw [e] at hba; cases hba
    have hb : inB b k = true := by rw [ha] at hba; simpa using hba.symm
    have HA := Lib.hid ha
    have HB := Lib.hid hb
    clear hba ha hb
    have HE := Lib.hid (addR_yes h)
    have HV := Lib.hid (show addV a b k = (a + b) % powV k from rfl)
    clear h
    go_enter Tryd.func26, Tryd.ntmps26
    go_wp2_with fail
    refine (in_any a k _).mono ?_
    rw [HA.out]
    rintro e w1 ⟨rfl, rfl⟩
    go_wp2_with fail
    refine (in_any b k _).mono ?_
    rw [HB.out]
    rintro e w1 ⟨rfl, rfl⟩
    go_wp2_with fail
    refine (rPower_any k _).mono ?_
    rintro e w1 ⟨rfl, rfl⟩
    generalize powV k = p at h2 h4 hp HV
    have hp0 : 0 < p := by omega
    go_wp2_with fail
    go_ret2
    exact ⟨by rw [HE.out, HV.out]; first | done | rfl, rfl⟩

set_option maxHeartbeats 400000 in
theorem rSub_any (a b k : Int) (w : World) : Calls Tryd.prog 28 #[.int .i64 a, .int .i64 b, .int .i64 k] w fun e w' => e = subR a b k ∧ w = w' := by
  have hba := bothB_and a b k
  cases h : bothB a b k with
  | false =>
    have HE := Lib.hid (subR_no h)
    rw [h] at hba
    cases ha : inB a k with
    | false =>
      have HA := Lib.hid ha
      clear hba h ha
      go_enter Tryd.func28, Tryd.ntmps28
      go_wp2_with fail
      refine (in_any a k _).mono ?_
      rw [HA.out]
      rintro e w1 ⟨rfl, rfl⟩
      go_wp2_with fail
      refine (in_any b k _).mono ?_
      rintro e w1 ⟨rfl, rfl⟩
      generalize inB b k = q
      go_wp2_with fail
      go_ret2
      exact ⟨HE.out.symm, rfl⟩
    | true =>
      have hb : inB b k = false := by rw [ha] at hba; simpa using hba.symm
      have HA := Lib.hid ha
      have HB := Lib.hid hb
      clear hba h ha hb
      go_enter Tryd.func28, Tryd.ntmps28
      go_wp2_with fail
      refine (in_any a k _).mono ?_
      rw [HA.out]
      rintro e w1 ⟨rfl, rfl⟩
      go_wp2_with fail
      refine (in_any b k _).mono ?_
      rw [HB.out]
      rintro e w1 ⟨rfl, rfl⟩
      go_wp2_with fail
      go_ret2
      exact ⟨HE.out.symm, rfl⟩
  | true =>
    have hp := powV_le k
    obtain ⟨h1, h2, h3, h4⟩ := bothB_yes h
    rw [h] at hba
    have ha : inB a k = true := by cases e : inB a k with
      | true => rfl
      | false => rw [e] at hba; cases hba
    have hb : inB b k = true := by rw [ha] at hba; simpa using hba.symm
    have HA := Lib.hid ha
    have HB := Lib.hid hb
    clear hba ha hb
    have HE := Lib.hid (subR_yes h)
    have HV := Lib.hid (show subV a b k = (a - b + powV k) % powV k from rfl)
    clear h
    go_enter Tryd.func28, Tryd.ntmps28
    go_wp2_with fail
    refine (in_any a k _).mono ?_
    rw [HA.out]
    rintro e w1 ⟨rfl, rfl⟩
    go_wp2_with fail
    refine (in_any b k _).mono ?_
    rw [HB.out]
    rintro e w1 ⟨rfl, rfl⟩
    go_wp2_with fail
    refine (rPower_any k _).mono ?_
    rintro e w1 ⟨rfl, rfl⟩
    go_wp2_with fail
    refine (rPower_any k _).mono ?_
    rintro e w1 ⟨rfl, rfl⟩
    generalize powV k = p at h2 h4 hp HV
    have hp0 : 0 < p := by omega
    go_wp2_with fail
    go_ret2
    exact ⟨by rw [HE.out, HV.out]; first | done | rfl, rfl⟩
end Go.Proofs.YtiijjpjkfiookaaDoor
