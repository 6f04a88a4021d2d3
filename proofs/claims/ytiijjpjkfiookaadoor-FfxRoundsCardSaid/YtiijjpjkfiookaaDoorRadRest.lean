/- THE WALKS of radix: rests. -/
import Derived.Test.YtiijjpjkfiookaaDoorRadPow
import Derived.Test.YtiijjpjkfiookaaDoorRow
import Derived.Laws.BitsAllLaws
namespace Go.Proofs.YtiijjpjkfiookaaDoor
open Go.RowKit

/-- The rest of big-endian bytes. -/
def restD (p : Nat) (l : List UInt8) : Nat := l.foldl (fun r c => (256 * r + c.toNat) % p) 0
theorem restD_snoc (p : Nat) (l : List UInt8) (c : UInt8) : restD p (l ++ [c]) = (256 * restD p l + c.toNat) % p := by simp [restD]
theorem restD_lt {p : Nat} (hp : 0 < p) (l : List UInt8) : restD p l < p := by
  rcases List.eq_nil_or_concat l with h | ⟨l', c, h⟩
  · subst h; exact hp
  · subst h; rw [List.concat_eq_append, restD_snoc]; exact Nat.mod_lt _ hp
def restR (l : List UInt8) (k : Int) : Ending := if powV k = 0 then .returned (.tuple #[.int .i64 0, .int .i64 1]) else if 64 < l.length then .returned (.tuple #[.int .i64 0, .int .i64 2]) else .returned (.tuple #[.int .i64 (restD (powV k).toNat l), .int .i64 0])
theorem restR_no {l : List UInt8} {k : Int} (h : powV k = 0) : restR l k = .returned (.tuple #[.int .i64 0, .int .i64 1]) := if_pos h
theorem restR_long {l : List UInt8} {k : Int} (h : ¬ powV k = 0) (h2 : 64 < l.length) : restR l k = .returned (.tuple #[.int .i64 0, .int .i64 2]) := by unfold restR; rw [if_neg h, if_pos h2]
theorem restR_ok {l : List UInt8} {k : Int} {p : Nat} (h : powV k = p) (hp : 0 < p) (h2 : ¬ 64 < l.length) : restR l k = .returned (.tuple #[.int .i64 (restD p l), .int .i64 0]) := by
  unfold restR; rw [if_neg (by omega), if_neg h2, h, Int.toNat_natCast]
theorem powV_range (k : Int) : powV k = 0 ∨ ∃ p : Nat, powV k = p ∧ 0 < p ∧ p ≤ 10000000000000000 := by
  by_cases h : 1 ≤ k ∧ k ≤ 16
  · obtain ⟨m, rfl⟩ : ∃ m : Nat, k = m := ⟨k.toNat, by omega⟩
    have h1 : 10 ^ m ≤ 10 ^ 16 := Nat.pow_le_pow_right (by decide) (by omega)
    have e : (10 : Nat) ^ 16 = 10000000000000000 := by decide
    exact .inr ⟨10 ^ m, powV_ok (by omega) (by omega), Nat.pow_pos (by decide), by omega⟩
  · exact .inl (powV_no h)

set_option maxHeartbeats 1000000 in
theorem rRest_any (A : Option Addr) (n c B : Nat) (l : List UInt8) (k : Int) (w : World) (hr : Reads w B 1 A n (bv l)) (_hnc : n ≤ c) :
    Calls Tryd.prog 25 #[.slice A n c, .int .i64 k] w fun e w' => e = restR l k ∧ w = w' := by
  have hll : l.length = n := by have := hr.1; rw [length_bv] at this; omega
  rcases powV_range k with hp | ⟨p, hp, hp0, hp9⟩
  · have HE := Lib.hid (restR_no (l := l) hp)
    go_enter Tryd.func25, Tryd.ntmps25
    go_wp2_with fail
    refine (rPower_any k _).mono ?_
    rw [hp]
    rintro e w1 ⟨rfl, rfl⟩
    go_wp2_with fail
    go_ret2
    exact ⟨HE.out.symm, rfl⟩
  by_cases h64 : (64 : Int) < n
  · have HE := Lib.hid (restR_long (l := l) (k := k) (by omega) (by omega))
    have hpi : ¬ (p : Int) = 0 := by omega
    go_enter Tryd.func25, Tryd.ntmps25
    go_wp2_with fail
    refine (rPower_any k _).mono ?_
    rw [hp]
    rintro e w1 ⟨rfl, rfl⟩
    go_wp2_with fail
    go_ret2
    exact ⟨HE.out.symm, rfl⟩
  have HE := Lib.hid (restR_ok (l := l) hp hp0 (by omega))
  have HR := Lib.hid hr
  have hpi : ¬ (p : Int) = 0 := by omega
  clear hr
  go_enter Tryd.func25, Tryd.ntmps25
  go_wp2_with fail
  refine (rPower_any k _).mono ?_
  rw [hp]
  rintro e w1 ⟨rfl, rfl⟩
  go_wp2_with fail
  go_loop [7, 8] (fun r i => ∃ j q : Nat, j ≤ n ∧ i = .int .i64 j ∧ r = .int .i64 q ∧ q < p ∧ q = restD p (l.take j)) (fun _ i => n - (intOf i).toNat)
  case atStart => exact ⟨0, 0, by omega, rfl, rfl, hp0, rfl⟩
  case round =>
    obtain ⟨j, q, hj, rfl, rfl, hqp, hq⟩ := hrel
    have HQ := Lib.hid hq; clear hq
    by_cases hlt : j < n
    · obtain ⟨b, o, rfl, -, hcell⟩ := HR.out.2 (by omega)
      have hc := hcell j (.int .u8 ((l[j]'(by omega)).toNat : Int)) (by simp [bv, show j < l.length by omega])
      have hb := (l[j]'(by omega)).toNat_lt
      have HT := Lib.hid (List.take_succ_eq_append_getElem (show j < l.length by omega))
      have hml := Nat.mod_lt (256 * q + (l[j]'(by omega)).toNat) hp0
      clear hcell
      go_wp2
      go_round
      case rel => exact ⟨j + 1, (256 * q + (l[j]'(by omega)).toNat) % p, by omega, by go_num, by go_num, hml, by rw [HT.out, restD_snoc, HQ.out]⟩
      case measure => simp [intOf]; omega
    · have hall : l.take j = l := List.take_of_length_le (by omega)
      have HA := Lib.hid hall; clear hall
      go_wp2
      go_ret2
      exact ⟨by rw [HE.out, HQ.out, HA.out]; rfl, rfl⟩
set_option maxHeartbeats 1000000 in
theorem Rest_any (A : Option Addr) (n c B : Nat) (l : List UInt8) (k : Int) (w : World) (hr : Reads w B 1 A n (bv l)) (hB : B ≤ w.heap.size) (_hnc : n ≤ c) :
    Calls Tryd.prog 21 #[.slice A n c, .int .i64 k] w fun e w' => e = restR l k ∧ Below w.heap.size w w' := by
  have hll : l.length = n := by have := hr.1; rw [length_bv] at this; omega
  rcases powV_range k with hp | ⟨p, hp, hp0, hp9⟩
  · have HE := Lib.hid (restR_no (l := l) hp)
    go_enter Tryd.func21, Tryd.ntmps21
    go_wp2_with fail
    refine (Power_any k _).mono ?_
    rw [hp]
    rintro e w1 ⟨rfl, hb1⟩
    go_wp2_with fail
    go_ret2
    exact ⟨HE.out.symm, hb1⟩
  by_cases h64 : (64 : Int) < n
  · have HE := Lib.hid (restR_long (l := l) (k := k) (by omega) (by omega))
    have hpi : ¬ (p : Int) = 0 := by omega
    go_enter Tryd.func21, Tryd.ntmps21
    go_wp2_with fail
    refine (Power_any k _).mono ?_
    rw [hp]
    rintro e w1 ⟨rfl, hb1⟩
    go_wp2_with fail
    go_ret2
    exact ⟨HE.out.symm, hb1⟩
  have HE := Lib.hid (restR_ok (l := l) hp hp0 (by omega))
  have HR := Lib.hid hr
  have hpi : ¬ (p : Int) = 0 := by omega
  clear hr
  go_enter Tryd.func21, Tryd.ntmps21
  go_wp2_with fail
  refine (Power_any k _).mono ?_
  rw [hp]
  rintro e w1 ⟨rfl, hb1⟩
  have hb2 := hb1.mono hB
  go_wp2_with fail
  go_loop [7, 21] (fun r i => ∃ j q : Nat, j ≤ n ∧ i = .int .i64 j ∧ r = .int .u64 q ∧ q < p ∧ q = restD p (l.take j)) (fun _ i => n - (intOf i).toNat)
  case atStart => exact ⟨0, 0, by omega, rfl, rfl, hp0, rfl⟩
  case round =>
    obtain ⟨j, q, hj, rfl, rfl, hqp, hq⟩ := hrel
    have HQ := Lib.hid hq; clear hq
    by_cases hlt : j < n
    · obtain ⟨b, o, rfl, -, hcell⟩ := (HR.out.below hb2).2 (by omega)
      have hc := hcell j (.int .u8 ((l[j]'(by omega)).toNat : Int)) (by simp [bv, show j < l.length by omega])
      have hb := (l[j]'(by omega)).toNat_lt
      have HT := Lib.hid (List.take_succ_eq_append_getElem (show j < l.length by omega))
      have hml := Nat.mod_lt (256 * q + (l[j]'(by omega)).toNat) hp0
      clear hcell
      have hor : bits .or .u64 ((q * 256 : Nat) : Int) (((l[j]'(by omega)).toNat : Nat) : Int) = ((256 * q + (l[j]'(by omega)).toNat : Nat) : Int) := by
        rw [u64_or_nat _ _ (by omega) (by omega), nat_join 8 _ _ (by omega) (by omega), Nat.mul_comm]
      have hor2 : bits .or .u64 ((q : Int) * 256) ((l[j]'(by omega)).toNat : Int) = 256 * (q : Int) + (l[j]'(by omega)).toNat := by
        rw [show (q : Int) * 256 = ((q * 256 : Nat) : Int) by omega, hor]; omega
      go_wp2
      go_round
      case rel => exact ⟨j + 1, (256 * q + (l[j]'(by omega)).toNat) % p, by omega, by go_num, by go_num, hml, by rw [HT.out, restD_snoc, HQ.out]⟩
      case measure => simp [intOf]; omega
    · have hall : l.take j = l := List.take_of_length_le (by omega)
      have HA := Lib.hid hall; clear hall
      go_wp2
      go_ret2
      exact ⟨by rw [HE.out, HQ.out, HA.out]; rfl, hb1⟩
end Go.Proofs.YtiijjpjkfiookaaDoor
