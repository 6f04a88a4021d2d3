/- THE WALKS of digits and of its reference: what is wrong with a text, the Luhn sum, check digits. -/
import Derived.Test.YtiijjpjkfiookaaDoorRows
import Derived.Test.YtiijjpjkfiookaaDoorDigPure
import Derived.WalkKit
import Derived.ProofKit
import Derived.Deep.QuietTactic
import Derived.BigQuiet
import Derived.Lib.Hide
namespace Go.Proofs.YtiijjpjkfiookaaDoor
open Go.RowKit

theorem ret_int {k : IntKind} {a b : Int} (h : a = b) : Ending.returned (.int k a) = .returned (.int k b) := by rw [h]
theorem size_toList (s : ByteArray) : s.data.toList.length = s.size := by simp
theorem byte_at (s : ByteArray) (k : Nat) (h : k < s.size) : s.data.toList[k]'(by simpa using h) = s[k] := rfl
theorem take_snoc (s : ByteArray) (k : Nat) (h : k < s.size) : s.data.toList.take (k + 1) = s.data.toList.take k ++ [s[k]] := by
  rw [List.take_succ_eq_append_getElem (by simpa using h)]; rfl
theorem all_snoc {p : UInt8 → Bool} {s : ByteArray} {k : Nat} (h : k < s.size) (ha : (s.data.toList.take k).all p = true) (hp : p s[k] = true) : (s.data.toList.take (k + 1)).all p = true := by
  rw [take_snoc s k h, List.all_append, ha]; simp [hp]
theorem not_all {p : UInt8 → Bool} {s : ByteArray} {k : Nat} (h : k < s.size) (hp : p s[k] = false) : s.data.toList.all p = false := by
  rw [Bool.eq_false_iff]
  intro ha
  have := List.all_eq_true.1 ha s[k] (by rw [← byte_at s k h]; exact List.getElem_mem _)
  rw [this] at hp; cases hp
theorem all_end {p : UInt8 → Bool} {s : ByteArray} {k : Nat} (hk : k ≤ s.size) (h : ¬ k < s.size) (ha : (s.data.toList.take k).all p = true) : s.data.toList.all p = true := by
  rwa [List.take_of_length_le (by rw [size_toList]; omega)] at ha
theorem isDig_yes {c : UInt8} (h : ((c.toNat : Int) - 48) % 256 ≤ 9) : isDig c = true := by
  have := c.toNat_lt
  exact isDig_iff.2 (by omega)
theorem isDig_no {c : UInt8} (h : 9 < ((c.toNat : Int) - 48) % 256) : isDig c = false := by
  rw [Bool.eq_false_iff]; intro hc
  have := isDig_iff.1 hc
  omega

set_option maxHeartbeats 400000 in
theorem look_any (s : ByteArray) (w : World) (hs : s.size ≤ maxLen) :
    Calls Tryd.prog 50 #[.string s] w fun e w' => e = .returned (.int .i64 (lookE s.data.toList)) ∧ w = w' := by
  unfold maxLen at hs
  go_enter Tryd.func50, Tryd.ntmps50
  go_wp2
  go_loop [6] (fun c => ∃ k : Nat, k ≤ s.size ∧ c = .int .i64 k ∧ (s.data.toList.take k).all isDig = true) (fun i => s.size - (intOf i).toNat)
  case atStart => exact ⟨0, Nat.zero_le _, rfl, rfl⟩
  case round =>
    obtain ⟨k, hk, rfl, hd⟩ := hrel
    have HD := Lib.hid hd; clear hd
    by_cases hlt : k < s.size
    · go_wp2
      · have h9 : 9 < ((s[k].toNat : Int) - 48) % 256 := by assumption
        go_ret
        exact ⟨ret_int (lookE_form (not_all hlt (isDig_no h9))).symm, rfl⟩
      · have h9 : ((s[k].toNat : Int) - 48) % 256 ≤ 9 := by assumption
        go_round
        case rel => exact ⟨k + 1, by omega, by go_num, all_snoc hlt HD.out (isDig_yes h9)⟩
        case measure => simp [intOf]; omega
    · go_wp2
      · have h9 : 999 < (s.size : Int) := by assumption
        go_ret
        exact ⟨ret_int (lookE_long (all_end hk hlt HD.out) (by rw [size_toList]; omega)).symm, rfl⟩
      · have h9 : (s.size : Int) ≤ 999 := by assumption
        go_ret
        exact ⟨ret_int (lookE_ok.2 ⟨all_end hk hlt HD.out, by rw [size_toList]; omega⟩).symm, rfl⟩

set_option maxHeartbeats 400000 in
theorem texts_any (s : ByteArray) (w : World) (hs : s.size ≤ maxLen) :
    Calls Tryd.prog 52 #[.string s] w fun e w' => e = .returned (.int .i64 (lookE s.data.toList)) ∧ w = w' := by
  unfold maxLen at hs
  go_enter Tryd.func52, Tryd.ntmps52
  go_wp2
  go_loop [3] (fun c => ∃ k : Nat, k ≤ s.size ∧ c = .int .i64 k ∧ (s.data.toList.take k).all isDig = true) (fun i => s.size - (intOf i).toNat)
  case atStart => exact ⟨0, Nat.zero_le _, rfl, rfl⟩
  case round =>
    obtain ⟨k, hk, rfl, hd⟩ := hrel
    have HD := Lib.hid hd; clear hd
    by_cases hlt : k < s.size
    · by_cases h1 : ((s[k].toNat : Int) < 48)
      · go_wp2
        go_ret
        exact ⟨ret_int (lookE_form (not_all hlt (by rw [Bool.eq_false_iff]; intro hc; have := isDig_iff.1 hc; omega))).symm, rfl⟩
      · by_cases h2 : ((57 : Int) < s[k].toNat)
        · go_wp2
          go_ret
          exact ⟨ret_int (lookE_form (not_all hlt (by rw [Bool.eq_false_iff]; intro hc; have := isDig_iff.1 hc; omega))).symm, rfl⟩
        · go_wp2
          go_round
          case rel => exact ⟨k + 1, by omega, by go_num, all_snoc hlt HD.out (isDig_iff.2 (by omega))⟩
          case measure => simp [intOf]; omega
    · go_wp2
      · have h9 : 999 < (s.size : Int) := by assumption
        go_ret
        exact ⟨ret_int (lookE_long (all_end hk hlt HD.out) (by rw [size_toList]; omega)).symm, rfl⟩
      · have h9 : (s.size : Int) ≤ 999 := by assumption
        go_ret
        exact ⟨ret_int (lookE_ok.2 ⟨all_end hk hlt HD.out, by rw [size_toList]; omega⟩).symm, rfl⟩
theorem tw_cell (w : World) (T : TypeId) {d : Nat} (h : d ≤ 9) : (w.alloc (.cells #[.int .i64 0, .int .i64 2, .int .i64 4, .int .i64 6, .int .i64 8, .int .i64 1, .int .i64 3, .int .i64 5, .int .i64 7, .int .i64 9] T)).cell? ⟨w.heap.size, d, none⟩ = some (.int .i64 (tw d : Nat)) := by
  have : d = 0 ∨ d = 1 ∨ d = 2 ∨ d = 3 ∨ d = 4 ∨ d = 5 ∨ d = 6 ∨ d = 7 ∨ d = 8 ∨ d = 9 := by omega
  rcases this with rfl | rfl | rfl | rfl | rfl | rfl | rfl | rfl | rfl | rfl <;> simp [tw]

end Go.Proofs.YtiijjpjkfiookaaDoor
