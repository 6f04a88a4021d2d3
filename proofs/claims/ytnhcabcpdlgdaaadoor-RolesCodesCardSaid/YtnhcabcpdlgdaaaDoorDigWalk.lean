/- THE WALKS of digits and of its reference: what is wrong with a text, the Luhn sum, check digits. -/
import Derived.Test.YtnhcabcpdlgdaaaDoorRows
import Derived.Test.YtnhcabcpdlgdaaaDoorDigPure
import Derived.WalkKit
import Derived.ProofKit
import Derived.Deep.QuietTactic
import Derived.BigQuiet
import Derived.Lib.Hide
namespace Go.Proofs.YtnhcabcpdlgdaaaDoor
open Go.RowKit

theorem ret_int {k : IntKind} {a b : Int} (h : a = b) : Ending.returned (.int k a) = .returned (.int k b) := by rw [h]
theorem size_toList (s : ByteArray) : s.data.toList.length = s.size := by simp
theorem byte_at (s : ByteArray) (k : Nat) (h : k < s.size) : s.data.toList[k]'(by simpa using h) = s[k] := rfl
theorem take_snoc (s : ByteArray) (k : Nat) (h : k < s.size) : s.data.toList.take (k + 1) = s.data.toList.take k ++ [s[k]] := by
  rw [List.take_succ_eq_append_getElem (by simpa using h)]; rfl
theorem all_snoc {p : UInt8 → Bool} {s : ByteArray} {k : Nat} (h : k < s.size) (ha : (s.data.toList.take k).all p = true) (hp : p s[k] = true) : (s.data.toList.take (k + 1)).all p = true := by
  rw [take_snoc s k h, List.all_append, ha]; simp [hp]
theorem not_all {p : UInt8 → Bool} {s : ByteArray} {k : Nat} (h : k < s.size) (hp : p s[k] = false) : s.data.toList.all p = false := by
  rw [Bool.eq_false_iff]
  intro ha
  have := List.all_eq_true.1 ha s[k] (by rw [← byte_at s k h]; exact List.getElem_mem _)
  rw [this] at hp; cases hp
theorem all_end {p : UInt8 → Bool} {s : ByteArray} {k : Nat} (hk : k ≤ s.size) (h : ¬ k < s.size) (ha : (s.data.toList.take k).all p = true) : s.data.toList.all p = true := by
  rwa [List.take_of_length_le (by rw [size_toList]; omega)] at ha
theorem isDig_yes {c : UInt8} (h : ((c.toNat : Int) - 48) % 256 ≤ 9) : isDig c = true := by
  have := c.toNat_lt
  exact isDig_iff.2 (by omega)
theorem isDig_no {c : UInt8} (h : 9 < ((c.toNat : Int) - 48) % 256) : isDig c = false := by
  rw [Bool.eq_false_iff]; intro hc
  have := isDig_iff.1 hc
  omega

set_option maxHeartbeats 400000 in
theorem look_any (s : ByteArray) (w : World) (hs : s.size ≤ maxLen) :
    Calls Tryd.prog 57 #[.string s] w fun e w' => e = .returned (.int .i64 (lookE s.data.toList)) ∧ w = w' := by
  unfold maxLen at hs
  go_enter Tryd.func57, Tryd.ntmps57
  go_wp2
  go_loop [6] (fun c => ∃ k : Nat, k ≤ s.size ∧ c = .int .i64 k ∧ (s.data.toList.take k).all isDig = true) (fun i => s.size - (intOf i).toNat)
  case atStart => exact ⟨0, Nat.zero_le _, rfl, rfl⟩
  case round =>
    obtain ⟨k, hk, rfl, hd⟩ := hrel
    have HD := Lib.hid hd; clear hd
    by_cases hlt : k < s.size
    · go_wp2
      · have h9 : 9 < ((s[k].toNat : Int) - 48) % 256 := by assumption
        go_ret
        exact ⟨ret_int (lookE_form (not_all hlt (isDig_no h9))).symm, rfl⟩
      · have h9 : ((s[k].toNat : Int) - 48) % 256 ≤ 9 := by assumption
        go_round
        case rel => exact ⟨k + 1, by omega, by go_num, all_snoc hlt HD.out (isDig_yes h9)⟩
        case measure => simp [intOf]; omega
    · go_wp2
      · have h9 : 999 < (s.size : Int) := by assumption
        go_ret
        exact ⟨ret_int (lookE_long (all_end hk hlt HD.out) (by rw [size_toList]; omega)).symm, rfl⟩
      · have h9 : (s.size : Int) ≤ 999 := by assumption
        go_ret
        exact ⟨ret_int (lookE_ok.2 ⟨all_end hk hlt HD.out, by rw [size_toList]; omega⟩).symm, rfl⟩

set_option maxHeartbeats 400000 in
theorem texts_any (s : ByteArray) (w : World) (hs : s.size ≤ maxLen) :
    Calls Tryd.prog 59 #[.string s] w fun e w' => e = .returned (.int .i64 (lookE s.data.toList)) ∧ w = w' := by
  unfold maxLen at hs
  go_enter Tryd.func59, Tryd.ntmps59
  go_wp2
  go_loop [3] (fun c => ∃ k : Nat, k ≤ s.size ∧ c = .int .i64 k ∧ (s.data.toList.take k).all isDig = true) (fun i => s.size - (intOf i).toNat)
  case atStart => exact ⟨0, Nat.zero_le _, rfl, rfl⟩
  case round =>
    obtain ⟨k, hk, rfl, hd⟩ := hrel
    have HD := Lib.hid hd; clear hd
    by_cases hlt : k < s.size
    · by_cases h1 : ((s[k].toNat : Int) < 48)
      · go_wp2
        go_ret
        exact ⟨ret_int (lookE_form (not_all hlt (by rw [Bool.eq_false_iff]; intro hc; have := isDig_iff.1 hc; omega))).symm, rfl⟩
      · by_cases h2 : ((57 : Int) < s[k].toNat)
        · go_wp2
          go_ret
          exact ⟨ret_int (lookE_form (not_all hlt (by rw [Bool.eq_false_iff]; intro hc; have := isDig_iff.1 hc; omega))).symm, rfl⟩
        · go_wp2
          go_round
          case rel => exact ⟨k + 1, by omega, by go_num, all_snoc hlt HD.out (isDig_iff.2 (by omega))⟩
          case measure => simp [intOf]; omega
    · go_wp2
      · have h9 : 999 < (s.size : Int) := by assumption
        go_ret
        exact ⟨ret_int (lookE_long (all_end hk hlt HD.out) (by rw [size_toList]; omega)).symm, rfl⟩
      · have h9 : (s.size : Int) ≤ 999 := by assumption
        go_ret
        exact ⟨ret_int (lookE_ok.2 ⟨all_end hk hlt HD.out, by rw [size_toList]; omega⟩).symm, rfl⟩
theorem tw_cell (w : World) (T : TypeId) {d : Nat} (h : d ≤ 9) : (w.alloc (.cells #[.int .i64 0, .int .i64 2, .int .i64 4, .int .i64 6, .int .i64 8, .int .i64 1, .int .i64 3, .int .i64 5, .int .i64 7, .int .i64 9] T)).cell? ⟨w.heap.size, d, none⟩ = some (.int .i64 (tw d : Nat)) := by
  have : d = 0 ∨ d = 1 ∨ d = 2 ∨ d = 3 ∨ d = 4 ∨ d = 5 ∨ d = 6 ∨ d = 7 ∨ d = 8 ∨ d = 9 := by omega
  rcases this with rfl | rfl | rfl | rfl | rfl | rfl | rfl | rfl | rfl | rfl <;> simp [tw]
set_option maxHeartbeats 400000 in
theorem weigh_any (s : ByteArray) (b : Int) (w : World) (hs : s.size ≤ 999) (hd : s.data.toList.all isDig = true) (hb0 : 0 ≤ b) (hb1 : b ≤ 1) :
    Calls Tryd.prog 58 #[.string s, .int .i64 b] w fun e w' => e = .returned (.int .i64 (wsum s.data.toList b.toNat)) ∧ Below w.heap.size w w' := by
  have HD := Lib.hid hd; clear hd
  go_enter Tryd.func58, Tryd.ntmps58
  go_wp2
  go_loop [6, 12] (fun n c => ∃ k a : Nat, k ≤ s.size ∧ c = .int .i64 k ∧ n = .int .i64 a ∧ a ≤ 9 * k ∧ a + wsum (s.data.toList.drop k) b.toNat = wsum s.data.toList b.toNat) (fun _ i => s.size - (intOf i).toNat)
  case atStart => exact ⟨0, 0, Nat.zero_le _, rfl, rfl, by omega, by simp⟩
  case round =>
    obtain ⟨k, a, hk, rfl, rfl, ha, hsum⟩ := hrel
    have HS := Lib.hid hsum; clear hsum
    by_cases hlt : k < s.size
    · have hdig := dig_at HD.out (k := k) (by rw [size_toList]; exact hlt)
      rw [byte_at s k hlt] at hdig
      have HW := Lib.hid (wsum_drop s.data.toList b.toNat k (by rw [size_toList]; exact hlt))
      rw [byte_at s k hlt, size_toList] at HW
      by_cases hp : ((s.size : Int) - 1 - k + b) % 2 = 1
      · have hc := tw_cell w 75 (d := s[k].toNat - 48) (by omega)
        have ht := tw_le (d := s[k].toNat - 48) (by omega)
        go_wp2
        go_round
        case rel => exact ⟨k + 1, a + tw (s[k].toNat - 48), by omega, by go_num, by go_num, by omega, by have h1 := HS.out; have h2 := HW.out; rw [if_pos (by omega)] at h2; unfold dg at h2; omega⟩
        case measure => simp [intOf]; omega
      · go_wp2
        go_round
        case rel => exact ⟨k + 1, a + (s[k].toNat - 48), by omega, by go_num, by go_num, by omega, by have h1 := HS.out; have h2 := HW.out; rw [if_neg (by omega)] at h2; unfold dg at h2; omega⟩
        case measure => simp [intOf]; omega
    · have HE : s.data.toList.drop k = [] := List.drop_of_length_le (by rw [size_toList]; omega)
      have H2 := Lib.hid HE; clear HE
      go_wp2
      go_ret
      exact ⟨ret_int (by have h1 := HS.out; rw [H2.out] at h1; simp [wsum] at h1; omega), (Below.refl _ _).alloc (Nat.le_refl _) _⟩

set_option maxHeartbeats 400000 in
theorem sum_any (s : ByteArray) (w : World) (hs : s.size ≤ 1000) (hd : s.data.toList.all isDig = true) :
    Calls Tryd.prog 60 #[.string s] w fun e w' => e = .returned (.int .i64 (wsum s.data.toList 0)) ∧ w = w' := by
  have HD := Lib.hid hd; clear hd
  go_enter Tryd.func60, Tryd.ntmps60
  go_wp2
  go_loop [3, 4] (fun n c => ∃ k a : Nat, k ≤ s.size ∧ c = .int .i64 k ∧ n = .int .i64 a ∧ a ≤ 9 * k ∧ a + wsum (s.data.toList.drop k) 0 = wsum s.data.toList 0) (fun _ i => s.size - (intOf i).toNat)
  case atStart => exact ⟨0, 0, Nat.zero_le _, rfl, rfl, by omega, by simp⟩
  case round =>
    obtain ⟨k, a, hk, rfl, rfl, ha, hsum⟩ := hrel
    have HS := Lib.hid hsum; clear hsum
    by_cases hlt : k < s.size
    · have hdig := dig_at HD.out (k := k) (by rw [size_toList]; exact hlt)
      rw [byte_at s k hlt] at hdig
      have HW := Lib.hid (wsum_drop s.data.toList 0 k (by rw [size_toList]; exact hlt))
      rw [byte_at s k hlt, size_toList] at HW
      by_cases hp : ((s.size : Int) - 1 - k) % 2 = 1
      · by_cases h9 : 9 < 2 * ((s[k].toNat : Int) - 48)
        · go_wp2
          go_round
          case rel => exact ⟨k + 1, a + (2 * (s[k].toNat - 48) - 9), by omega, by go_num, by go_num, by omega, by have h1 := HS.out; have h2 := HW.out; rw [if_pos (by omega)] at h2; unfold dg tw at h2; rw [if_pos (by omega)] at h2; omega⟩
          case measure => simp [intOf]; omega
        · go_wp2
          go_round
          case rel => exact ⟨k + 1, a + (2 * (s[k].toNat - 48)), by omega, by go_num, by go_num, by omega, by have h1 := HS.out; have h2 := HW.out; rw [if_pos (by omega)] at h2; unfold dg tw at h2; rw [if_neg (by omega)] at h2; omega⟩
          case measure => simp [intOf]; omega
      · go_wp2
        go_round
        case rel => exact ⟨k + 1, a + (s[k].toNat - 48), by omega, by go_num, by go_num, by omega, by have h1 := HS.out; have h2 := HW.out; rw [if_neg (by omega)] at h2; unfold dg at h2; omega⟩
        case measure => simp [intOf]; omega
    · have HE : s.data.toList.drop k = [] := List.drop_of_length_le (by rw [size_toList]; omega)
      have H2 := Lib.hid HE; clear HE
      go_wp2
      go_ret
      exact ⟨ret_int (by have h1 := HS.out; rw [H2.out] at h1; simp [wsum] at h1; omega), rfl⟩
end Go.Proofs.YtnhcabcpdlgdaaaDoor
