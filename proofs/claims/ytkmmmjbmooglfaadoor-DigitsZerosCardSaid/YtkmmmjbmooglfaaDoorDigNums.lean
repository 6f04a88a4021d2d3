/- THE WALKS of the laws DigitsNumbers and DigitsZeros. -/
import Derived.Test.YtkmmmjbmooglfaaDoorDigRNum
namespace Go.Proofs.YtkmmmjbmooglfaaDoor
open Go.RowKit

set_option maxHeartbeats 2000000 in
theorem DigitsNumbers_walk (s : ByteArray) (n wd : Int) (w : World) (hs : s.size ≤ maxLen) (h1 : (Lit.int .i64 n).wf = true) (_h2 : (Lit.int .i64 wd).wf = true) :
    Calls Tryd.prog 3 #[.string s, .int .i64 n, .int .i64 wd] w fun e w' => e = .returned (.bool true) ∧ Below w.heap.size w w' := by
  have h63 : n ≤ 9223372036854775807 := by simp [Lit.wf] at h1; omega
  go_enter Tryd.func3, Tryd.ntmps3
  go_wp2_with fail
  refine (small01_any _).mono ?_
  rintro e w1 ⟨rfl, hb1⟩
  go_wp2_with fail
  refine (Number_any s _ hs).mono ?_
  rintro e w' ⟨rfl, rfl⟩
  unfold numR
  go_wp2_with fail
  refine (rNumber_any s _ hs).mono ?_
  rintro e w' ⟨rfl, rfl⟩
  unfold numR
  go_wp2_with fail
  refine (Text_any n wd _ h63).mono ?_
  rintro e w2 ⟨rfl, hb2⟩
  go_wp2_with fail
  refine (rText_any n wd _ h63).mono ?_
  rintro e w3 ⟨rfl, hb3⟩
  go_wp2_with fail
  go_ret
  exact ⟨rfl, thenB hb1 (thenB hb2 hb3)⟩

theorem noughts_look {l : List UInt8} {k : Nat} (hk : l.length + k ≤ 999) : lookE (List.replicate k 48 ++ l) = lookE l := by
  unfold lookE
  have h1 : (List.replicate k (48 : UInt8) ++ l).all isDig = l.all isDig := by
    rw [List.all_append]
    have : (List.replicate k (48 : UInt8)).all isDig = true := by
      rw [List.all_eq_true]; intro c hc; rw [List.eq_of_mem_replicate hc]; decide
    rw [this, Bool.true_and]
  rw [h1, List.length_append, List.length_replicate]
  rw [if_pos (show k + l.length ≤ 999 by omega), if_pos (show l.length ≤ 999 by omega)]
theorem noughts_numE {l : List UInt8} {k : Nat} (h0 : l ≠ []) (hk : l.length + k ≤ 999) : numE (List.replicate k 48 ++ l) = numE l := by
  unfold numE
  rw [noughts_look hk, val_noughts, if_neg h0, if_neg (show List.replicate k 48 ++ l ≠ [] by simp [h0])]
theorem noughts_numV {l : List UInt8} {k : Nat} (h0 : l ≠ []) (hk : l.length + k ≤ 999) : numV (List.replicate k 48 ++ l) = numV l := by
  unfold numV
  rw [noughts_numE h0 hk, val_noughts]
theorem and63 (n : Int) : bits .and .i64 n 63 = n % 64 := by
  have h127 : (BitVec.ofInt 64 63).toNat = 2 ^ 6 - 1 := by decide
  have key : (BitVec.ofInt 64 n &&& BitVec.ofInt 64 63).toNat = (n % ((2 ^ 64 : Nat) : Int)).toNat % 2 ^ 6 := by
    rw [BitVec.toNat_and, BitVec.toNat_ofInt, h127, Nat.and_two_pow_sub_one_eq_mod]
  show IntKind.i64.wrap ((BitVec.ofInt 64 n &&& BitVec.ofInt 64 63).toNat : Nat) = n % 64
  rw [key, IntKind.wrap_i64]
  omega
theorem nil_of {s : ByteArray} (h : s.data.toList = []) : s = ⟨#[]⟩ := by rw [str_is s, h]
set_option maxHeartbeats 2000000 in
theorem DigitsZeros_walk (s : ByteArray) (n : Int) (w : World) (hs : s.size ≤ 140737488351232) (_h1 : (Lit.int .i64 n).wf = true) :
    Calls Tryd.prog 4 #[.string s, .int .i64 n] w fun e w' => e = .returned (.bool true) ∧ Below w.heap.size w w' := by
  obtain ⟨m, hm⟩ : ∃ m : Nat, n % 64 = m := ⟨(n % 64).toNat, by omega⟩
  have h63 := and63 n
  rw [hm] at h63
  have hm63 : m ≤ 63 := by omega
  clear hm
  go_enter Tryd.func4, Tryd.ntmps4
  go_wp2_with fail
  refine (small01_any _).mono ?_
  rintro e w1 ⟨rfl, hb1⟩
  go_wp2_with fail
  go_loop [6, 7] (fun t c => ∃ (k : Nat) (b : ByteArray), k ≤ m ∧ c = .int .i64 k ∧ t = .string b ∧ b.size = k + s.size ∧ b.data.toList = List.replicate k 48 ++ s.data.toList) (fun _ i => m - (intOf i).toNat)
  case atStart => exact ⟨0, s, by omega, rfl, rfl, by omega, rfl⟩
  case round =>
    obtain ⟨k, b, hk, rfl, rfl, hbs, hb⟩ := hrel
    have HB := Lib.hid hb; clear hb
    by_cases hlt : k < m
    · go_wp2
      go_round
      case rel => exact ⟨k + 1, _, by omega, by go_num, rfl, by rw [← size_toList, cons_data, List.length_cons, size_toList, hbs]; omega, by rw [cons_data, HB.out, List.replicate_succ, List.cons_append]⟩
      case measure => simp [intOf]; omega
    · obtain rfl : k = m := by omega
      have hb63 : b.size ≤ maxLen := by unfold maxLen; omega
      have hs63 : s.size ≤ maxLen := by unfold maxLen; omega
      go_wp2_with fail
      refine (Number_any s _ hs63).mono ?_
      rintro e w' ⟨rfl, rfl⟩
      unfold numR
      go_wp2_with fail
      refine (Number_any b _ hb63).mono ?_
      rintro e w' ⟨rfl, rfl⟩
      unfold numR
      rw [HB.out]
      by_cases h0 : s.data.toList = []
      · have hy := isEmpty_yes h0
        have H0 := Lib.hid h0; clear h0
        go_wp2_with fail
        go_ret
        exact ⟨rfl, hb1⟩
      · have hy := isEmpty_no h0
        by_cases h9 : (900 : Int) < s.size
        · have H0 := Lib.hid h0; clear h0
          go_wp2_with fail
          go_ret
          exact ⟨rfl, hb1⟩
        · rw [noughts_numE h0 (by rw [size_toList]; omega), noughts_numV h0 (by rw [size_toList]; omega)]
          have H0 := Lib.hid h0; clear h0
          go_wp2_with fail
          go_ret
          exact ⟨rfl, hb1⟩
end Go.Proofs.YtkmmmjbmooglfaaDoor
