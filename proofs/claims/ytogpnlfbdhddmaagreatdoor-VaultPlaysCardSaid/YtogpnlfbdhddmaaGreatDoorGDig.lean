/- THE WALKS of digits and of its reference: what is wrong with a text, the Luhn sum, check digits. THE WALKS of digits and of its reference: check digits, valid texts. THE WALKS of digits and of its reference: packing, the text of a number. THE WALKS of digits: the text of a number. THE WALKS of digits and of its reference: the number that digits tell; the reference's text of a number. THE WALKS of digits' reference: the number that digits tell; the text of a number. THE WALK of the reference's packing. THE WALK of the laws' own helper Owned. -/
import Derived.Test.YtogpnlfbdhddmaaGreatDoorRows
import Derived.Test.YtogpnlfbdhddmaaGreatDoorGPlain
import Derived.WalkKit
import Derived.ProofKit
import Derived.Deep.QuietTactic
import Derived.BigQuiet
import Derived.Lib.Hide
import Derived.Outline
import Derived.Test.YtogpnlfbdhddmaaGreatDoorGMem
import Derived.BigRegion
import Derived.Laws.BitsAllLaws
import Derived.Lib.Split
namespace Go.Proofs.YtogpnlfbdhddmaaGreatDoor
open Go.RowKit

theorem ret_int {k : IntKind} {a b : Int} (h : a = b) : Ending.returned (.int k a) = .returned (.int k b) := by rw [h]
theorem size_toList (s : ByteArray) : s.data.toList.length = s.size := by simp
theorem byte_at (s : ByteArray) (k : Nat) (h : k < s.size) : s.data.toList[k]'(by simpa using h) = s[k] := rfl
theorem take_snoc (s : ByteArray) (k : Nat) (h : k < s.size) : s.data.toList.take (k + 1) = s.data.toList.take k ++ [s[k]] := by
  rw [List.take_succ_eq_append_getElem (by simpa using h)]; rfl
theorem all_snoc {p : UInt8 → Bool} {s : ByteArray} {k : Nat} (h : k < s.size) (ha : (s.data.toList.take k).all p = true) (hp : p s[k] = true) : (s.data.toList.take (k + 1)).all p = true := by
  rw [take_snoc s k h, List.all_append, ha]; simp [hp]
theorem not_all {p : UInt8 → Bool} {s : ByteArray} {k : Nat} (h : k < s.size) (hp : p s[k] = false) : s.data.toList.all p = false := by
  rw [Bool.eq_false_iff]
  intro ha
  have := List.all_eq_true.1 ha s[k] (by rw [← byte_at s k h]; exact List.getElem_mem _)
  rw [this] at hp; cases hp
theorem all_end {p : UInt8 → Bool} {s : ByteArray} {k : Nat} (hk : k ≤ s.size) (h : ¬ k < s.size) (ha : (s.data.toList.take k).all p = true) : s.data.toList.all p = true := by
  rwa [List.take_of_length_le (by rw [size_toList]; omega)] at ha
theorem isDig_yes {c : UInt8} (h : ((c.toNat : Int) - 48) % 256 ≤ 9) : isDig c = true := by
  have := c.toNat_lt
  exact isDig_iff.2 (by omega)
theorem isDig_no {c : UInt8} (h : 9 < ((c.toNat : Int) - 48) % 256) : isDig c = false := by
  rw [Bool.eq_false_iff]; intro hc
  have := isDig_iff.1 hc
  omega

set_option maxHeartbeats 400000 in
theorem look_any (s : ByteArray) (w : World) (hs : s.size ≤ maxLen) :
    Calls Tryz.prog 67 #[.string s] w fun e w' => e = .returned (.int .i64 (lookE s.data.toList)) ∧ w = w' := by
  unfold maxLen at hs
  go_enter Tryz.func67, Tryz.ntmps67
  go_wp2
  go_loop [6] (fun c => ∃ k : Nat, k ≤ s.size ∧ c = .int .i64 k ∧ (s.data.toList.take k).all isDig = true) (fun i => s.size - (intOf i).toNat)
  case atStart => exact ⟨0, Nat.zero_le _, rfl, rfl⟩
  case round =>
    obtain ⟨k, hk, rfl, hd⟩ := hrel
    have HD := Lib.hid hd; clear hd
    by_cases hlt : k < s.size
    · go_wp2
      · have h9 : 9 < ((s[k].toNat : Int) - 48) % 256 := by assumption
        go_ret
        exact ⟨ret_int (lookE_form (not_all hlt (isDig_no h9))).symm, rfl⟩
      · have h9 : ((s[k].toNat : Int) - 48) % 256 ≤ 9 := by assumption
        go_round
        case rel => exact ⟨k + 1, by omega, by go_num, all_snoc hlt HD.out (isDig_yes h9)⟩
        case measure => simp [intOf]; omega
    · go_wp2
      · have h9 : 999 < (s.size : Int) := by assumption
        go_ret
        exact ⟨ret_int (lookE_long (all_end hk hlt HD.out) (by rw [size_toList]; omega)).symm, rfl⟩
      · have h9 : (s.size : Int) ≤ 999 := by assumption
        go_ret
        exact ⟨ret_int (lookE_ok.2 ⟨all_end hk hlt HD.out, by rw [size_toList]; omega⟩).symm, rfl⟩

set_option maxHeartbeats 400000 in
theorem texts_any (s : ByteArray) (w : World) (hs : s.size ≤ maxLen) :
    Calls Tryz.prog 82 #[.string s] w fun e w' => e = .returned (.int .i64 (lookE s.data.toList)) ∧ w = w' := by
  unfold maxLen at hs
  go_enter Tryz.func82, Tryz.ntmps82
  go_wp2
  go_loop [3] (fun c => ∃ k : Nat, k ≤ s.size ∧ c = .int .i64 k ∧ (s.data.toList.take k).all isDig = true) (fun i => s.size - (intOf i).toNat)
  case atStart => exact ⟨0, Nat.zero_le _, rfl, rfl⟩
  case round =>
    obtain ⟨k, hk, rfl, hd⟩ := hrel
    have HD := Lib.hid hd; clear hd
    by_cases hlt : k < s.size
    · by_cases h1 : ((s[k].toNat : Int) < 48)
      · go_wp2
        go_ret
        exact ⟨ret_int (lookE_form (not_all hlt (by rw [Bool.eq_false_iff]; intro hc; have := isDig_iff.1 hc; omega))).symm, rfl⟩
      · by_cases h2 : ((57 : Int) < s[k].toNat)
        · go_wp2
          go_ret
          exact ⟨ret_int (lookE_form (not_all hlt (by rw [Bool.eq_false_iff]; intro hc; have := isDig_iff.1 hc; omega))).symm, rfl⟩
        · go_wp2
          go_round
          case rel => exact ⟨k + 1, by omega, by go_num, all_snoc hlt HD.out (isDig_iff.2 (by omega))⟩
          case measure => simp [intOf]; omega
    · go_wp2
      · have h9 : 999 < (s.size : Int) := by assumption
        go_ret
        exact ⟨ret_int (lookE_long (all_end hk hlt HD.out) (by rw [size_toList]; omega)).symm, rfl⟩
      · have h9 : (s.size : Int) ≤ 999 := by assumption
        go_ret
        exact ⟨ret_int (lookE_ok.2 ⟨all_end hk hlt HD.out, by rw [size_toList]; omega⟩).symm, rfl⟩
theorem tw_cell (w : World) (T : TypeId) {d : Nat} (h : d ≤ 9) : (w.alloc (.cells #[.int .i64 0, .int .i64 2, .int .i64 4, .int .i64 6, .int .i64 8, .int .i64 1, .int .i64 3, .int .i64 5, .int .i64 7, .int .i64 9] T)).cell? ⟨w.heap.size, d, none⟩ = some (.int .i64 (tw d : Nat)) := by
  have : d = 0 ∨ d = 1 ∨ d = 2 ∨ d = 3 ∨ d = 4 ∨ d = 5 ∨ d = 6 ∨ d = 7 ∨ d = 8 ∨ d = 9 := by omega
  rcases this with rfl | rfl | rfl | rfl | rfl | rfl | rfl | rfl | rfl | rfl <;> simp [tw]
set_option maxHeartbeats 400000 in
theorem weigh_any (s : ByteArray) (b : Int) (w : World) (hs : s.size ≤ 999) (hd : s.data.toList.all isDig = true) (hb0 : 0 ≤ b) (hb1 : b ≤ 1) :
    Calls Tryz.prog 68 #[.string s, .int .i64 b] w fun e w' => e = .returned (.int .i64 (wsum s.data.toList b.toNat)) ∧ Below w.heap.size w w' := by
  have HD := Lib.hid hd; clear hd
  go_enter Tryz.func68, Tryz.ntmps68
  go_wp2
  go_loop [6, 12] (fun n c => ∃ k a : Nat, k ≤ s.size ∧ c = .int .i64 k ∧ n = .int .i64 a ∧ a ≤ 9 * k ∧ a + wsum (s.data.toList.drop k) b.toNat = wsum s.data.toList b.toNat) (fun _ i => s.size - (intOf i).toNat)
  case atStart => exact ⟨0, 0, Nat.zero_le _, rfl, rfl, by omega, by simp⟩
  case round =>
    obtain ⟨k, a, hk, rfl, rfl, ha, hsum⟩ := hrel
    have HS := Lib.hid hsum; clear hsum
    by_cases hlt : k < s.size
    · have hdig := dig_at HD.out (k := k) (by rw [size_toList]; exact hlt)
      rw [byte_at s k hlt] at hdig
      have HW := Lib.hid (wsum_drop s.data.toList b.toNat k (by rw [size_toList]; exact hlt))
      rw [byte_at s k hlt, size_toList] at HW
      by_cases hp : ((s.size : Int) - 1 - k + b) % 2 = 1
      · have hc := tw_cell w 151 (d := s[k].toNat - 48) (by omega)
        have ht := tw_le (d := s[k].toNat - 48) (by omega)
        go_wp2
        go_round
        case rel => exact ⟨k + 1, a + tw (s[k].toNat - 48), by omega, by go_num, by go_num, by omega, by have h1 := HS.out; have h2 := HW.out; rw [if_pos (by omega)] at h2; unfold dg at h2; omega⟩
        case measure => simp [intOf]; omega
      · go_wp2
        go_round
        case rel => exact ⟨k + 1, a + (s[k].toNat - 48), by omega, by go_num, by go_num, by omega, by have h1 := HS.out; have h2 := HW.out; rw [if_neg (by omega)] at h2; unfold dg at h2; omega⟩
        case measure => simp [intOf]; omega
    · have HE : s.data.toList.drop k = [] := List.drop_of_length_le (by rw [size_toList]; omega)
      have H2 := Lib.hid HE; clear HE
      go_wp2
      go_ret
      exact ⟨ret_int (by have h1 := HS.out; rw [H2.out] at h1; simp [wsum] at h1; omega), (Below.refl _ _).alloc (Nat.le_refl _) _⟩

set_option maxHeartbeats 400000 in
theorem sum_any (s : ByteArray) (w : World) (hs : s.size ≤ 1000) (hd : s.data.toList.all isDig = true) :
    Calls Tryz.prog 107 #[.string s] w fun e w' => e = .returned (.int .i64 (wsum s.data.toList 0)) ∧ w = w' := by
  have HD := Lib.hid hd; clear hd
  go_enter Tryz.func107, Tryz.ntmps107
  go_wp2
  go_loop [3, 4] (fun n c => ∃ k a : Nat, k ≤ s.size ∧ c = .int .i64 k ∧ n = .int .i64 a ∧ a ≤ 9 * k ∧ a + wsum (s.data.toList.drop k) 0 = wsum s.data.toList 0) (fun _ i => s.size - (intOf i).toNat)
  case atStart => exact ⟨0, 0, Nat.zero_le _, rfl, rfl, by omega, by simp⟩
  case round =>
    obtain ⟨k, a, hk, rfl, rfl, ha, hsum⟩ := hrel
    have HS := Lib.hid hsum; clear hsum
    by_cases hlt : k < s.size
    · have hdig := dig_at HD.out (k := k) (by rw [size_toList]; exact hlt)
      rw [byte_at s k hlt] at hdig
      have HW := Lib.hid (wsum_drop s.data.toList 0 k (by rw [size_toList]; exact hlt))
      rw [byte_at s k hlt, size_toList] at HW
      by_cases hp : ((s.size : Int) - 1 - k) % 2 = 1
      · by_cases h9 : 9 < 2 * ((s[k].toNat : Int) - 48)
        · go_wp2
          go_round
          case rel => exact ⟨k + 1, a + (2 * (s[k].toNat - 48) - 9), by omega, by go_num, by go_num, by omega, by have h1 := HS.out; have h2 := HW.out; rw [if_pos (by omega)] at h2; unfold dg tw at h2; rw [if_pos (by omega)] at h2; omega⟩
          case measure => simp [intOf]; omega
        · go_wp2
          go_round
          case rel => exact ⟨k + 1, a + (2 * (s[k].toNat - 48)), by omega, by go_num, by go_num, by omega, by have h1 := HS.out; have h2 := HW.out; rw [if_pos (by omega)] at h2; unfold dg tw at h2; rw [if_neg (by omega)] at h2; omega⟩
          case measure => simp [intOf]; omega
      · go_wp2
        go_round
        case rel => exact ⟨k + 1, a + (s[k].toNat - 48), by omega, by go_num, by go_num, by omega, by have h1 := HS.out; have h2 := HW.out; rw [if_neg (by omega)] at h2; unfold dg at h2; omega⟩
        case measure => simp [intOf]; omega
    · have HE : s.data.toList.drop k = [] := List.drop_of_length_le (by rw [size_toList]; omega)
      have H2 := Lib.hid HE; clear HE
      go_wp2
      go_ret
      exact ⟨ret_int (by have h1 := HS.out; rw [H2.out] at h1; simp [wsum] at h1; omega), rfl⟩
end Go.Proofs.YtogpnlfbdhddmaaGreatDoor
namespace Go.Proofs.YtogpnlfbdhddmaaGreatDoor
open Go.RowKit

theorem ret_two {k j : IntKind} {a b c d : Int} (h : a = b) (h' : c = d) : Ending.returned (.tuple #[.int k a, .int j c]) = .returned (.tuple #[.int k b, .int j d]) := by rw [h, h']
/-- The digit that Luhn answers, or 0. -/
theorem luhnV_ok {l : List UInt8} (h : lookE l = 0) : luhnV l = (luhn l : Int) := by unfold luhnV; rw [if_pos h]
theorem luhnV_no {l : List UInt8} (h : lookE l ≠ 0) : luhnV l = 0 := by unfold luhnV; rw [if_neg h]

theorem validB_nil {l : List UInt8} (h : l = []) : validB l = false := by subst h; rfl
theorem validB_no {l : List UInt8} (h : lookE l ≠ 0) : validB l = false := by
  rw [Bool.eq_false_iff]; intro hv; exact h (validB_iff.1 hv).2.1
theorem validB_ok {l : List UInt8} (h : l ≠ []) (h0 : lookE l = 0) : validB l = decide (wsum l 0 % 10 = 0) := by
  rw [Bool.eq_iff_iff, validB_iff, decide_eq_true_iff]; exact ⟨fun x => x.2.2, fun x => ⟨h, h0, x⟩⟩
theorem ret_bool {a b : Bool} (h : a = b) : Ending.returned (.bool a) = .returned (.bool b) := by rw [h]
theorem isEmpty_no {s : ByteArray} (h : s.data.toList ≠ []) : s.toList.isEmpty = false := by
  rw [ByteArray.toList_eq]; simpa using h
theorem isEmpty_yes {s : ByteArray} (h : s.data.toList = []) : s.toList.isEmpty = true := by
  rw [ByteArray.toList_eq, h]; rfl

theorem Valid_any (s : ByteArray) (w : World) (hs : s.size ≤ maxLen) :
    Calls Tryz.prog 38 #[.string s] w fun e w' => e = .returned (.bool (validB s.data.toList)) ∧ Below w.heap.size w w' := by
  by_cases hn : s.data.toList = []
  · have hv := Lib.hid (validB_nil hn)
    have hn2 := isEmpty_yes hn
    have hn3 : (!s.toList.isEmpty) = false := by rw [hn2]; rfl
    clear hn
    go_enter Tryz.func38, Tryz.ntmps38
    go_wp2_with fail
    go_ret
    exact ⟨ret_bool hv.out.symm, Below.refl _ _⟩
  · have hn2 := isEmpty_no hn
    have hn3 : (!s.toList.isEmpty) = true := by rw [hn2]; rfl
    generalize he : lookE s.data.toList = err
    have HE := Lib.hid he
    by_cases h0 : err = 0
    · subst h0
      obtain ⟨ha, hb⟩ := lookE_ok.1 he
      have hw := wsum_le s.data.toList 0 ha
      have HV := Lib.hid (validB_ok hn he)
      have HA := Lib.hid ha
      clear ha he hn
      rw [size_toList] at hb hw
      go_enter Tryz.func38, Tryz.ntmps38
      go_wp2_with fail
      refine (look_any s _ hs).mono ?_
      rintro e w' ⟨rfl, rfl⟩
      rw [HE.out]
      go_wp2_with fail
      refine (weigh_any s 0 _ hb HA.out (by omega) (by omega)).mono ?_
      rintro e w' ⟨rfl, hb'⟩
      by_cases hz : wsum s.data.toList 0 % 10 = 0
      · have hz2 : (((wsum s.data.toList 0 : Nat) : Int) % 10 == 0) = true := by simp; omega
        have HZ := Lib.hid hz; clear hz
        go_wp2
        go_ret
        exact ⟨ret_bool (by rw [HV.out, decide_eq_true HZ.out]), hb'⟩
      · have hz2 : (((wsum s.data.toList 0 : Nat) : Int) % 10 == 0) = false := by simp; omega
        have HZ := Lib.hid hz; clear hz
        go_wp2
        go_ret
        exact ⟨ret_bool (by rw [HV.out, decide_eq_false HZ.out]), hb'⟩
    · have HV := Lib.hid (validB_no (l := s.data.toList) (by rw [he]; exact h0))
      have hne : (err == 0) = false := by simpa using h0
      clear he h0 hn
      go_enter Tryz.func38, Tryz.ntmps38
      go_wp2_with fail
      refine (look_any s _ hs).mono ?_
      rintro e w' ⟨rfl, rfl⟩
      rw [HE.out]
      go_wp2_with fail
      go_ret
      exact ⟨ret_bool HV.out.symm, Below.refl _ _⟩
theorem rValid_any (s : ByteArray) (w : World) (hs : s.size ≤ maxLen) :
    Calls Tryz.prog 74 #[.string s] w fun e w' => e = .returned (.bool (validB s.data.toList)) ∧ w = w' := by
  unfold maxLen at hs
  generalize he : lookE s.data.toList = err
  have HE := Lib.hid he
  by_cases hn : s.data.toList = []
  · have hz : ¬ (0 : Int) < s.size := by rw [← size_toList, hn]; simp
    have hv := Lib.hid (validB_nil hn)
    clear hn he
    by_cases h0 : err = 0
    all_goals
      first | subst h0 | (have hne : (err == 0) = false := by simpa using h0)
      go_enter Tryz.func74, Tryz.ntmps74
      go_wp2_with fail
      refine (texts_any s _ hs).mono ?_
      rintro e w' ⟨rfl, rfl⟩
      rw [HE.out]
      go_wp2_with fail
      go_ret
      exact ⟨ret_bool hv.out.symm, rfl⟩
  · have hz : (0 : Int) < s.size := by
      rw [← size_toList]; have := List.length_pos_iff.2 hn; omega
    by_cases h0 : err = 0
    · subst h0
      obtain ⟨ha, hb⟩ := lookE_ok.1 he
      have hw := wsum_le s.data.toList 0 ha
      have HV := Lib.hid (validB_ok hn he)
      have HA := Lib.hid ha
      clear ha he hn
      rw [size_toList] at hb hw
      go_enter Tryz.func74, Tryz.ntmps74
      go_wp2_with fail
      refine (texts_any s _ hs).mono ?_
      rintro e w' ⟨rfl, rfl⟩
      rw [HE.out]
      go_wp2_with fail
      refine (sum_any s _ (by omega) HA.out).mono ?_
      rintro e w' ⟨rfl, rfl⟩
      by_cases hz : wsum s.data.toList 0 % 10 = 0
      · have hz2 : (((wsum s.data.toList 0 : Nat) : Int) % 10 == 0) = true := by simp; omega
        have HZ := Lib.hid hz; clear hz
        go_wp2
        go_ret
        exact ⟨ret_bool (by rw [HV.out, decide_eq_true HZ.out]), rfl⟩
      · have hz2 : (((wsum s.data.toList 0 : Nat) : Int) % 10 == 0) = false := by simp; omega
        have HZ := Lib.hid hz; clear hz
        go_wp2
        go_ret
        exact ⟨ret_bool (by rw [HV.out, decide_eq_false HZ.out]), rfl⟩
    · have HV := Lib.hid (validB_no (l := s.data.toList) (by rw [he]; exact h0))
      have hne : (err == 0) = false := by simpa using h0
      clear he h0 hn
      go_enter Tryz.func74, Tryz.ntmps74
      go_wp2_with fail
      refine (texts_any s _ hs).mono ?_
      rintro e w' ⟨rfl, rfl⟩
      rw [HE.out]
      go_wp2_with fail
      go_ret
      exact ⟨ret_bool HV.out.symm, rfl⟩
theorem sg_b8 {k : Nat} (h : k ≤ 9) : b8 (48 + (k : Int)) = sg k := by
  unfold b8 sg; rw [show (48 + (k : Int)).toNat = 48 + k by omega]

end Go.Proofs.YtogpnlfbdhddmaaGreatDoor
namespace Go.Proofs.YtogpnlfbdhddmaaGreatDoor
open Go.RowKit
theorem u8_info : (Tryz.prog.info? 5).map (fun i => (i.zero, i.size, i.bytes)) = some (some (.int .u8 0), 1, 1) := by kernel_rfl
theorem and15 {c : UInt8} (h : isDig c = true) : bits .and .u8 (c.toNat : Int) 15 = (dg c : Nat) := by
  have := isDig_iff.1 h
  have e := u8_and_nat c.toNat 15 c.toNat_lt (by omega)
  rw [nat_mask4] at e
  rw [show ((15 : Nat) : Int) = 15 from rfl] at e
  rw [e]
  unfold dg
  omega
theorem or_low {a b : Nat} (ha : a ≤ 9) (hb : b ≤ 9) : bits .or .u8 ((a * 16 : Nat) : Int) (b : Int) = ((a * 16 + b : Nat) : Int) := by
  rw [u8_or_nat (a * 16) b (by omega) (by omega), nat_join 4 (a * 16) b (by omega) (by omega)]
theorem or_high {b : Nat} (hb : b ≤ 9) : bits .or .u8 ((0 : Nat) : Int) ((b : Int) * 16 % 256) = ((b * 16 : Nat) : Int) := by
  rw [show (b : Int) * 16 % 256 = ((b * 16 : Nat) : Int) by omega]
  have := u8_or_nat 0 (b * 16) (by omega) (by omega)
  simpa using this

set_option maxHeartbeats 1000000 in
theorem Pack_ok (s : ByteArray) (w : World) (hs : s.size ≤ maxLen) (he : lookE s.data.toList = 0) :
    Calls Tryz.prog 66 #[.string s] w fun e w' => ∃ A c, e = .returned (.tuple #[.slice A ((s.size + 1) / 2) c, .int .i64 0]) ∧ Row w' w.heap.size 1 A ((s.size + 1) / 2) c (bv (packB s.data.toList)) ∧ Below w.heap.size w w' := by
  have HE := Lib.hid he
  obtain ⟨ha, hb⟩ := lookE_ok.1 he
  have HA := Lib.hid ha
  clear ha he
  rw [size_toList] at hb
  obtain ⟨m, hm⟩ : ∃ m, m = (s.size + 1) / 2 := ⟨_, rfl⟩
  have hm1 : ((s.size : Int) + 1) / 2 = m := by omega
  have hm2 : 2 * m ≤ s.size + 1 := by omega
  have hm3 : s.size ≤ 2 * m := by omega
  have HM := Lib.hid hm; clear hm
  have hmk := run_make_row' (P := Tryz.prog) 27 5 (.int .u8 0) 1 Tryz.underlying27 u8_info rfl .i64 .i64 m (by omega) (by omega)
  go_enter Tryz.func66, Tryz.ntmps66
  go_wp2_with fail
  refine (look_any s _ hs).mono ?_
  rintro e w' ⟨rfl, rfl⟩
  rw [HE.out]
  go_wp2_with fail
  clear hm1 hmk
  go_loopw [20] (fun c wr => ∃ k : Nat, k ≤ s.size ∧ c = .int .i64 k ∧ wr.rowIs w.heap.size 5 m (fun j => .int .u8 (pkAt s.data.toList k j)) ∧ Below w.heap.size w wr) (fun i _ => s.size - (intOf i).toNat)
  case atStart => exact ⟨0, by omega, rfl, (World.rowIs_made w (.int .u8 0) m 5).congr fun j _ => by rw [pk_zero]; rfl, (Below.refl _ _).alloc (Nat.le_refl _) _⟩
  case round =>
    obtain ⟨k, hk, rfl, hrow, hbel⟩ := hrel
    by_cases hlt : k < s.size
    · have hdig : isDig (s[k]) = true := by rw [← byte_at s k hlt]; exact List.all_eq_true.1 HA.out _ (List.getElem_mem _)
      have hj : m - 1 - (s.size - 1 - k) / 2 = (k + s.data.toList.length % 2) / 2 := by rw [size_toList]; have := HM.out; omega
      have hc := hrow.cell (i := m - 1 - (s.size - 1 - k) / 2) (by omega)
      have hf := hrow.frozen (m - 1 - (s.size - 1 - k) / 2)
      have HR := Lib.hid hrow
      have HJ := Lib.hid hj
      have HD := Lib.hid hdig
      have hset := Lib.hid (hrow.set (m - 1 - (s.size - 1 - k) / 2) (.int .u8 (pkAt s.data.toList (k + 1) (m - 1 - (s.size - 1 - k) / 2))))
      have hbs := Lib.hid (hbel.setCell (p := ⟨w.heap.size, m - 1 - (s.size - 1 - k) / 2, none⟩) (Nat.le_refl _) (.int .u8 (pkAt s.data.toList (k + 1) (m - 1 - (s.size - 1 - k) / 2))))
      clear hrow hj hdig
      have hd9 := dg_le HD.out
      have hgo : wr.rowIs w.heap.size 5 m (fun j => .int .u8 (pkAt s.data.toList k j)) → (∃ k' : Nat, k' ≤ s.size ∧ Value.int .i64 ((k : Int) + 1) = .int .i64 k' ∧ (wr.setCell ⟨w.heap.size, m - 1 - (s.size - 1 - k) / 2, none⟩ (.int .u8 (pkAt s.data.toList (k + 1) (m - 1 - (s.size - 1 - k) / 2)))).drew.rowIs w.heap.size 5 m (fun j => .int .u8 (pkAt s.data.toList k' j)) ∧ Below w.heap.size w (wr.setCell ⟨w.heap.size, m - 1 - (s.size - 1 - k) / 2, none⟩ (.int .u8 (pkAt s.data.toList (k + 1) (m - 1 - (s.size - 1 - k) / 2)))).drew) := fun _ => by
        refine ⟨k + 1, by omega, by go_num, hset.out.drew.congr fun j _ => ?_, hbs.out.drew⟩
        by_cases e : j = m - 1 - (s.size - 1 - k) / 2
        · rw [if_pos e, e]
        · rw [if_neg e, pk_other _ _ _ (by rw [← HJ.out]; exact e)]
      have HG := Lib.hid (hgo HR.out)
      clear hgo
      by_cases hpar : ((s.size : Int) - 1 - k) % 2 = 1
      · have hv := Lib.hid (pk_high s.data.toList k (by rw [size_toList]; exact hlt) (by rw [size_toList]; omega))
        rw [← HJ.out, byte_at s k hlt] at hv
        go_wp2
        go_region
        go_wp2
        go_roundw
        case rel => rw [hv.out.1, and15 HD.out, or_high hd9, ← hv.out.2]; exact HG.out
        case measure => simp [intOf]; omega
      · obtain ⟨a, ha, hv⟩ := pk_low s.data.toList k HA.out (by rw [size_toList]; exact hlt) (by rw [size_toList]; omega)
        rw [← HJ.out, byte_at s k hlt] at hv
        have HV := Lib.hid hv; clear hv
        go_wp2
        go_region
        go_wp2
        go_roundw
        case rel => rw [HV.out.1, and15 HD.out, show (s.size - 1 - k) % 2 * 4 = 0 by omega, show ((dg s[k] : Nat) : Int) * 2 ^ 0 % 256 = (dg s[k] : Nat) by omega, or_low ha hd9, ← HV.out.2]; exact HG.out
        case measure => simp [intOf]; omega
    · have HR := Lib.hid hrow; clear hrow
      have HK := Lib.hid (show k = s.size by omega)
      go_wp2
      go_ret2
      have e : bv (packB s.data.toList) = (List.range m).map fun j => Value.int .u8 (pkAt s.data.toList k j) := by
        apply List.ext_getElem?
        intro j
        unfold packB
        rw [if_pos HE.out, HK.out]
        have hlen : (pairs (evened s.data.toList)).length = m := by rw [length_pairs _ _ (length_evened _), size_toList, HM.out]
        simp only [bv, List.getElem?_map]
        by_cases hj : j < m
        · have := pk_end s.data.toList HA.out j (by rw [size_toList, ← HM.out]; exact hj)
          rw [size_toList] at this
          rw [Option.map_eq_some_iff] at this
          obtain ⟨c, h1, h2⟩ := this
          rw [h1, List.getElem?_eq_getElem (by simpa using hj)]
          simp [h2]
        · rw [List.getElem?_eq_none (by omega), List.getElem?_eq_none (by simp; omega)]
          rfl
      rw [e, ← HM.out]
      exact ⟨_, _, rfl, Row.of_rowIs HR.out (Nat.le_refl _) (by unfold maxLen; omega), hbel⟩

theorem Pack_no (s : ByteArray) (w : World) (hs : s.size ≤ maxLen) (he : lookE s.data.toList ≠ 0) :
    Calls Tryz.prog 66 #[.string s] w fun e w' => e = .returned (.tuple #[.slice none 0 0, .int .i64 (lookE s.data.toList)]) ∧ w = w' := by
  generalize hh : lookE s.data.toList = err at he
  have HE := Lib.hid hh; clear hh
  have hn : (err != 0) = true := by simpa using he
  clear he
  go_enter Tryz.func66, Tryz.ntmps66
  go_wp2_with fail
  refine (look_any s _ hs).mono ?_
  rintro e w' ⟨rfl, rfl⟩
  rw [HE.out]
  go_wp2_with fail
  go_ret2
  exact ⟨rfl, rfl⟩

theorem Pack_any (s : ByteArray) (w : World) (hs : s.size ≤ maxLen) :
    Calls Tryz.prog 66 #[.string s] w fun e w' => ∃ A n c, e = .returned (.tuple #[.slice A n c, .int .i64 (lookE s.data.toList)]) ∧ Row w' w.heap.size 1 A n c (bv (packB s.data.toList)) ∧ Below w.heap.size w w' := by
  by_cases h : lookE s.data.toList = 0
  · refine (Pack_ok s w hs h).mono fun e w' ⟨A, c, h1, h2, h3⟩ => ⟨A, _, c, by rw [h]; exact h1, h2, h3⟩
  · refine (Pack_no s w hs h).mono fun e w' ⟨h1, h2⟩ => ?_
    subst h2
    exact ⟨none, 0, 0, h1, by unfold packB; rw [if_neg h]; exact Row.nil_ _ _ _, Below.refl _ _⟩
end Go.Proofs.YtogpnlfbdhddmaaGreatDoor
namespace Go.Proofs.YtogpnlfbdhddmaaGreatDoor
open Go.RowKit
theorem ret_str {k : IntKind} {a b : List UInt8} {c d : Int} (h : a = b) (h' : c = d) : Ending.returned (.tuple #[.string ⟨a.toArray⟩, .int k c]) = .returned (.tuple #[.string ⟨b.toArray⟩, .int k d]) := by rw [h, h']
/-- Cell j of the text when k digits have been laid. -/
def txAt (n w k j : Nat) : Nat := if w - k ≤ j ∧ j < w then 48 + n / 10 ^ (w - 1 - j) % 10 else 0
theorem tx_zero (n w j : Nat) : txAt n w 0 j = 0 := by unfold txAt; rw [if_neg (by omega)]
theorem tx_hit (n w k : Nat) (hk : k < w) : txAt n w (k + 1) (w - 1 - k) = 48 + n / 10 ^ k % 10 := by
  unfold txAt; rw [if_pos (by omega), show w - 1 - (w - 1 - k) = k by omega]
theorem tx_other (n w k j : Nat) (_hk : k < w) (hj : j ≠ w - 1 - k) : txAt n w (k + 1) j = txAt n w k j := by
  unfold txAt
  by_cases h : w - k ≤ j ∧ j < w
  · rw [if_pos h, if_pos (by omega)]
  · rw [if_neg h, if_neg (by omega)]
theorem tx_end (n w : Nat) : bv (textD n w) = (List.range w).map fun j => Value.int .u8 (txAt n w w j) := by
  unfold bv textD
  rw [List.map_map]
  refine List.map_congr_left fun j hj => ?_
  have hj' := List.mem_range.1 hj
  simp only [Function.comp]
  unfold txAt
  rw [sg_toNat (by omega), if_pos (by omega)]
theorem nineteen (w : World) (T : TypeId) : (w.alloc (.cells #[.int .u8 0, .int .u8 0, .int .u8 0, .int .u8 0, .int .u8 0, .int .u8 0, .int .u8 0, .int .u8 0, .int .u8 0, .int .u8 0, .int .u8 0, .int .u8 0, .int .u8 0, .int .u8 0, .int .u8 0, .int .u8 0, .int .u8 0, .int .u8 0, .int .u8 0] T)).rowIs w.heap.size T 19 (fun _ => .int .u8 0) := by
  refine ⟨_, (MapKept.heap_alloc w _).1, rfl, fun i hi => ?_⟩
  have h : (#[.int .u8 0, .int .u8 0, .int .u8 0, .int .u8 0, .int .u8 0, .int .u8 0, .int .u8 0, .int .u8 0, .int .u8 0, .int .u8 0, .int .u8 0, .int .u8 0, .int .u8 0, .int .u8 0, .int .u8 0, .int .u8 0, .int .u8 0, .int .u8 0, .int .u8 0] : Array Value) = Array.replicate 19 (.int .u8 0) := rfl
  rw [h, Array.getElem?_replicate, if_pos hi]

set_option maxHeartbeats 1000000 in
theorem Text_in (n wd : Int) (w : World) (h : ¬ (n < 0 ∨ wd < 1 ∨ 19 < wd)) (h63 : n ≤ 9223372036854775807) :
    Calls Tryz.prog 132 #[.int .i64 n, .int .i64 wd] w fun e w' => e = .returned (.tuple #[.string ⟨(textV n wd).toArray⟩, .int .i64 (textE n wd)]) ∧ Below w.heap.size w w' := by
  obtain ⟨m, rfl⟩ : ∃ m : Nat, n = m := ⟨n.toNat, by omega⟩
  obtain ⟨v, rfl⟩ : ∃ v : Nat, wd = v := ⟨wd.toNat, by omega⟩
  have h1 : 0 ≤ (m : Int) := by omega
  have h2 : 1 ≤ (v : Int) := by omega
  have h3 : (v : Int) ≤ 19 := by omega
  have H := Lib.hid h; clear h
  go_enter Tryz.func132, Tryz.ntmps132
  go_wp2_with fail
  go_loopw [0, 19] (fun n c wr => ∃ k q : Nat, k ≤ v ∧ c = .int .i64 k ∧ n = .int .i64 q ∧ q ≤ m ∧ q = m / 10 ^ k ∧ wr.rowIs w.heap.size 231 19 (fun j => .int .u8 (txAt m v k j)) ∧ Below w.heap.size w wr) (fun _ i _ => v - (intOf i).toNat)
  case atStart => exact ⟨0, m, by omega, rfl, rfl, Nat.le_refl _, by simp, (nineteen w _).congr fun j _ => by rw [tx_zero]; rfl, (Below.refl _ _).alloc (Nat.le_refl _) _⟩
  case round =>
    obtain ⟨k, q, hk, rfl, rfl, hqm, hq, hrow, hbel⟩ := hrel
    have HQ := Lib.hid hq; clear hq
    have HR := Lib.hid hrow
    by_cases hlt : k < v
    · have hc := hrow.cell (i := v - 1 - k) (by omega)
      have hf := hrow.frozen (v - 1 - k)
      clear hrow
      go_wp2
      go_roundw
      case rel =>
        refine ⟨k + 1, q / 10, by omega, by go_num, by go_num, Nat.le_trans (Nat.div_le_self _ _) hqm, by rw [HQ.out, div_pow_succ], (HR.out.set _ _).congr fun j _ => ?_, hbel.setCell (Nat.le_refl _) _⟩
        by_cases e : j = v - 1 - k
        · rw [if_pos e, e, tx_hit _ _ _ hlt, ← HQ.out]; congr 1
        · rw [if_neg e, tx_other _ _ _ _ hlt e]
      case measure => simp [intOf]; omega
    · obtain rfl : k = v := by omega
      clear hrow
      have hcv := run_conv_bytes (P := Tryz.prog) Tryz.underlying27 Tryz.underlying5 Tryz.underlying9 (cap := 19) (l := textD m k)
        (((Row.of_rowIs (base := 0) HR.out (by omega) (by unfold maxLen; omega)).reads.take (k := k) (by omega)).congr_ (by
          rw [tx_end, Nat.mul_one, ← List.map_take, List.take_range, Nat.min_eq_left (by omega)]))
      by_cases hz : 0 < q
      · have he := Lib.hid (textE_num H.out (by rw [Int.toNat_natCast, Int.toNat_natCast, ← HQ.out]; exact hz))
        go_wp2
        go_ret2
        exact ⟨ret_str (by rw [textV_no (by rw [he.out]; decide)]) he.out.symm, hbel⟩
      · have he := Lib.hid (textE_ok H.out (by rw [Int.toNat_natCast, Int.toNat_natCast, ← HQ.out]; exact hz))
        go_wp2
        go_ret2
        exact ⟨ret_str (by rw [textV_ok he.out]; simp) he.out.symm, hbel⟩

theorem Text_any (n wd : Int) (w : World) (h63 : n ≤ 9223372036854775807) :
    Calls Tryz.prog 132 #[.int .i64 n, .int .i64 wd] w fun e w' => e = .returned (.tuple #[.string ⟨(textV n wd).toArray⟩, .int .i64 (textE n wd)]) ∧ Below w.heap.size w w' := by
  by_cases h : n < 0 ∨ wd < 1 ∨ 19 < wd
  · have he := Lib.hid (textE_arg h)
    by_cases h1 : n < 0
    · clear h
      go_enter Tryz.func132, Tryz.ntmps132
      go_wp2_with fail
      go_ret2
      exact ⟨ret_str (a := []) (by rw [textV_no (by rw [he.out]; decide)]) he.out.symm, Below.refl _ _⟩
    · by_cases h2 : wd < 1
      · clear h
        go_enter Tryz.func132, Tryz.ntmps132
        go_wp2_with fail
        go_ret2
        exact ⟨ret_str (a := []) (by rw [textV_no (by rw [he.out]; decide)]) he.out.symm, Below.refl _ _⟩
      · have h3 : 19 < wd := by omega
        clear h
        go_enter Tryz.func132, Tryz.ntmps132
        go_wp2_with fail
        go_ret2
        exact ⟨ret_str (a := []) (by rw [textV_no (by rw [he.out]; decide)]) he.out.symm, Below.refl _ _⟩
  · exact Text_in n wd w h h63
end Go.Proofs.YtogpnlfbdhddmaaGreatDoor
namespace Go.Proofs.YtogpnlfbdhddmaaGreatDoor
open Go.RowKit

theorem str_data' (l : List UInt8) : (⟨l.toArray⟩ : ByteArray).data.toList = l := rfl
theorem str_is (s : ByteArray) : s = ⟨s.data.toList.toArray⟩ := by cases s; simp
theorem trim_eq {l : List UInt8} {c : UInt8} {m : List UInt8} (h : l = c :: m) (hc : c ≠ 48) : trimZ l = l := by
  subst h; unfold trimZ; rw [List.dropWhile_cons, if_neg (by simpa using hc)]
theorem trim_step {l : List UInt8} {m : List UInt8} (h : l = 48 :: m) : trimZ l = trimZ m := by
  subst h; unfold trimZ; rw [List.dropWhile_cons, if_pos (by decide)]
theorem head_of {s : ByteArray} (h : 0 < s.size) : s.data.toList = s[0] :: s.data.toList.drop 1 := by
  have h' : 0 < s.data.toList.length := by rw [size_toList]; exact h
  have := List.drop_eq_getElem_cons h'
  rw [List.drop_zero] at this
  rw [this]; rfl
theorem drop_data (s : ByteArray) : (s.extract 1 s.size).data.toList = s.data.toList.drop 1 := by
  rw [ByteArray.data_extract, Array.toList_extract]; simp only [List.extract]; rw [List.take_of_length_le (by rw [List.length_drop, size_toList]; exact Nat.le_refl _)]

theorem ret_s {a b : ByteArray} (h : a = b) : Ending.returned (.string a) = .returned (.string b) := by rw [h]
set_option maxHeartbeats 400000 in
theorem trimLeftByte_any (s : ByteArray) (w : World) (hs : s.size ≤ 9223372036854775807) :
    Calls Tryz.prog 101 #[.string s, .int .u8 48] w fun e w' => e = .returned (.string ⟨(trimZ s.data.toList).toArray⟩) ∧ w = w' := by
  have _ := hs
  go_enter Tryz.func101, Tryz.ntmps101
  go_wp2_with fail
  go_loop [0] (fun v => ∃ t : ByteArray, v = .string t ∧ t.size ≤ s.size ∧ trimZ t.data.toList = trimZ s.data.toList) (fun v => match v with | .string t => t.size | _ => 0)
  case atStart => exact ⟨s, rfl, Nat.le_refl _, rfl⟩
  case round =>
    obtain ⟨t, rfl, hts, htr⟩ := hrel
    have HT := Lib.hid htr; clear htr
    by_cases h0 : 0 < t.size
    · have HH := Lib.hid (head_of h0)
      by_cases h48 : t[0] = 48
      · have h48' : ((t[0].toNat : Int)) = 48 := by rw [h48]; rfl
        have H48 := Lib.hid h48; clear h48
        go_wp2
        go_round
        case rel => exact ⟨t.extract 1 t.size, rfl, by simp; omega, by rw [drop_data, ← HT.out]; exact (trim_step (by rw [← H48.out]; exact HH.out)).symm⟩
        case measure => simp; omega
      · have h48' : ¬ ((t[0].toNat : Int)) = 48 := by intro e; exact h48 (UInt8.toNat_inj.1 (by show t[0].toNat = 48; omega))
        have H48 := Lib.hid h48; clear h48
        go_wp2
        go_ret
        exact ⟨ret_s (by rw [← HT.out, trim_eq HH.out H48.out]), rfl⟩
    · have he : t.data.toList = [] := List.eq_nil_of_length_eq_zero (by rw [size_toList]; omega)
      have HE := Lib.hid he; clear he
      go_wp2
      go_ret
      exact ⟨ret_s (by rw [← HT.out, HE.out]; rw [str_is t, HE.out]; rfl), rfl⟩

set_option maxHeartbeats 400000 in
theorem TrimLeft_at (s c : ByteArray) (w : World) (hs : s.size ≤ maxLen) (h1 : c.size = 1) (h48 : (c[0]'(by omega)).toNat = 48) (hce : c.toList.isEmpty = false) :
    Calls Tryz.prog 70 #[.string s, .string c] w fun e w' => e = .returned (.string ⟨(trimZ s.data.toList).toArray⟩) ∧ w = w' := by
  have h48' : ((c[0]'(by omega)).toNat : Int) = 48 := by omega
  by_cases h : s.data.toList = []
  · have hy := isEmpty_yes h
    have HE := Lib.hid h; clear h
    go_enter Tryz.func70, Tryz.ntmps70
    go_wp2_with fail
    go_ret
    exact ⟨ret_s (by rw [HE.out]; rw [str_is s, HE.out]; rfl), rfl⟩
  · have hy := isEmpty_no h
    have HE := Lib.hid h; clear h
    go_enter Tryz.func70, Tryz.ntmps70
    go_wp2_with fail
    refine (trimLeftByte_any s _ hs).mono ?_
    rintro e w' ⟨rfl, rfl⟩
    go_wp2_with fail
    go_ret
    exact ⟨rfl, rfl⟩
theorem TrimLeft_any (s : ByteArray) (w : World) (hs : s.size ≤ maxLen) :
    Calls Tryz.prog 70 #[.string s, .string ⟨#[48]⟩] w fun e w' => e = .returned (.string ⟨(trimZ s.data.toList).toArray⟩) ∧ w = w' :=
  TrimLeft_at s ⟨#[48]⟩ w hs rfl rfl (isEmpty_no (by simp))

/-- What Number answers. -/
def numR (l : List UInt8) : Ending := .returned (.tuple #[.int .i64 (numV l), .int .i64 (numE l)])
theorem numR_no {l : List UInt8} {e : Int} (h : numE l = e) (he : e ≠ 0) : numR l = .returned (.tuple #[.int .i64 0, .int .i64 e]) := by
  unfold numR; rw [numV_no (by rw [h]; exact he), h]
theorem numR_ok {l : List UInt8} {v : Int} (h : numE l = 0) (hv : (valD l : Int) = v) : numR l = .returned (.tuple #[.int .i64 v, .int .i64 0]) := by
  unfold numR; rw [numV_ok h, h, hv]
theorem val_take {s : ByteArray} {k : Nat} (hk : k < s.size) : valD (s.data.toList.take (k + 1)) = 10 * valD (s.data.toList.take k) + dg s[k] := by
  rw [take_snoc s k hk, val_snoc]
theorem val_small {l : List UInt8} {k : Nat} (h : l.all isDig = true) (hk : k ≤ 19) : valD (l.take k) < 10000000000000000000 := by
  have h1 := val_lt (l.take k) (by rw [List.all_eq_true] at h ⊢; exact fun c hc => h c (List.mem_of_mem_take hc))
  have h2 : (l.take k).length ≤ 19 := by rw [List.length_take]; omega
  have h3 : 10 ^ (l.take k).length ≤ 10 ^ 19 := Nat.pow_le_pow_right (by decide) h2
  have e : (10 : Nat) ^ 19 = 10000000000000000000 := by decide
  omega

set_option maxHeartbeats 1000000 in
theorem Number_in (s : ByteArray) (w : World) (hs : s.size ≤ maxLen) (he : lookE s.data.toList = 0) (h0 : s.data.toList ≠ []) :
    Calls Tryz.prog 40 #[.string s] w fun e w' => e = numR s.data.toList ∧ w = w' := by
  have hne := isEmpty_no h0
  have HE := Lib.hid he
  have H0 := Lib.hid h0
  have HA := Lib.hid (lookE_ok.1 he).1
  have hV := val_trim s.data.toList
  have HTA := trim_all HA.out
  have hlen : (trimZ s.data.toList).length ≤ s.size := by rw [← size_toList]; exact (List.dropWhile_sublist _).length_le
  obtain ⟨t, ht⟩ : ∃ t : ByteArray, t = ⟨(trimZ s.data.toList).toArray⟩ := ⟨_, rfl⟩
  have htl : t.data.toList = trimZ s.data.toList := by rw [ht]
  have hsz : t.size = (trimZ s.data.toList).length := by rw [← size_toList, htl]
  have htm : t.size ≤ 999 := by have := (lookE_ok.1 he).2; rw [size_toList] at this; omega
  have HB := Lib.hid (trim_big HA.out)
  rw [← htl] at HTA hV
  rw [← hsz] at HB
  have HV := Lib.hid hV
  have HT := Lib.hid HTA
  clear he h0 hV HTA hlen htl hsz
  go_enter Tryz.func40, Tryz.ntmps40
  go_wp2_with fail
  refine (look_any s _ hs).mono ?_
  rintro e w' ⟨rfl, rfl⟩
  rw [HE.out]
  go_wp2_with fail
  refine (TrimLeft_any s _ hs).mono ?_
  rintro e w' ⟨rfl, rfl⟩
  rw [← ht]
  clear ht
  by_cases hbig : 19 < t.size
  · go_wp2_with fail
    go_ret2
    exact ⟨(numR_no (numE_big HE.out H0.out (HB.out hbig)) (by decide)).symm, rfl⟩
  · go_wp2_with fail
    go_loop [6, 24] (fun n c => ∃ k a : Nat, k ≤ t.size ∧ c = .int .i64 k ∧ n = .int .u64 a ∧ a = valD (t.data.toList.take k)) (fun _ i => t.size - (intOf i).toNat)
    case atStart => exact ⟨0, 0, Nat.zero_le _, rfl, rfl, by simp [valD]⟩
    case round =>
      obtain ⟨k, a, hk, rfl, rfl, ha⟩ := hrel
      have hsm := val_small HT.out (k := k) (by omega)
      rw [← ha] at hsm
      have HQ := Lib.hid ha; clear ha
      by_cases hlt : k < t.size
      · have hdig := dig_at HT.out (k := k) (by rw [size_toList]; exact hlt)
        rw [byte_at t k hlt] at hdig
        have hs2 := val_small HT.out (k := k + 1) (by omega)
        rw [val_take hlt, ← HQ.out] at hs2
        have hd : dg t[k] = t[k].toNat - 48 := rfl
        rw [hd] at hs2
        go_wp2
        go_round
        case rel => exact ⟨k + 1, 10 * a + dg t[k], by omega, by go_num, by rw [hd]; go_num, by rw [val_take hlt, HQ.out]⟩
        case measure => simp [intOf]; omega
      · have hall : t.data.toList.take k = t.data.toList := List.take_of_length_le (by rw [size_toList]; omega)
        have hav : a = valD s.data.toList := by rw [HQ.out, hall, HV.out]
        have HAV := Lib.hid hav; clear hav hall
        by_cases hb : 9223372036854775807 < a
        · go_wp2
          go_ret2
          exact ⟨(numR_no (numE_big HE.out H0.out (by rw [← HAV.out]; exact hb)) (by decide)).symm, rfl⟩
        · go_wp2
          go_ret2
          exact ⟨(numR_ok (numE_ok HE.out H0.out (by rw [← HAV.out]; omega)) (by rw [← HAV.out])).symm, rfl⟩

set_option maxHeartbeats 400000 in
theorem Number_any (s : ByteArray) (w : World) (hs : s.size ≤ maxLen) :
    Calls Tryz.prog 40 #[.string s] w fun e w' => e = numR s.data.toList ∧ w = w' := by
  by_cases hl : lookE s.data.toList = 0
  · by_cases h0 : s.data.toList = []
    · have hy := isEmpty_yes h0
      have HE := Lib.hid hl; have H0 := Lib.hid h0
      clear hl h0
      go_enter Tryz.func40, Tryz.ntmps40
      go_wp2_with fail
      refine (look_any s _ hs).mono ?_
      rintro e w' ⟨rfl, rfl⟩
      rw [HE.out]
      go_wp2_with fail
      refine (TrimLeft_any s _ hs).mono ?_
      rintro e w' ⟨rfl, rfl⟩
      go_wp2_with fail
      go_ret2
      exact ⟨(numR_no (by rw [H0.out]; exact numE_nil) (by decide)).symm, rfl⟩
    · exact Number_in s w hs hl h0
  · generalize hh : lookE s.data.toList = err at hl
    have HE := Lib.hid hh
    have HN := Lib.hid (numE_look (by rw [hh]; exact hl))
    clear hh
    have hn : (err != 0) = true := by simpa using hl
    have HL := Lib.hid hl; clear hl
    go_enter Tryz.func40, Tryz.ntmps40
    go_wp2_with fail
    refine (look_any s _ hs).mono ?_
    rintro e w' ⟨rfl, rfl⟩
    rw [HE.out]
    go_wp2_with fail
    go_ret2
    exact ⟨(numR_no (by rw [HN.out, HE.out]) HL.out).symm, rfl⟩
end Go.Proofs.YtogpnlfbdhddmaaGreatDoor
namespace Go.Proofs.YtogpnlfbdhddmaaGreatDoor
open Go.RowKit

theorem val_le (l : List UInt8) (k : Nat) : valD (l.take k) ≤ valD l := by
  have h := val_append (l.take k) (l.drop k)
  rw [List.take_append_drop] at h
  have h1 : 1 ≤ 10 ^ (l.drop k).length := Nat.one_le_pow _ _ (by decide)
  have h2 : valD (l.take k) * 1 ≤ valD (l.take k) * 10 ^ (l.drop k).length := Nat.mul_le_mul_left _ h1
  omega

set_option maxHeartbeats 1000000 in
theorem rNumber_in (s : ByteArray) (w : World) (hs : s.size ≤ maxLen) (he : lookE s.data.toList = 0) (h0 : s.data.toList ≠ []) :
    Calls Tryz.prog 81 #[.string s] w fun e w' => e = numR s.data.toList ∧ w = w' := by
  have hne := isEmpty_no h0
  have HE := Lib.hid he
  have H0 := Lib.hid h0
  have HA := Lib.hid (lookE_ok.1 he).1
  have h9 : s.size ≤ 999 := by have := (lookE_ok.1 he).2; rw [size_toList] at this; omega
  clear he h0
  go_enter Tryz.func81, Tryz.ntmps81
  go_wp2_with fail
  refine (texts_any s _ hs).mono ?_
  rintro e w' ⟨rfl, rfl⟩
  rw [HE.out]
  go_wp2_with fail
  go_loop [5, 6] (fun n c => ∃ k a : Nat, k ≤ s.size ∧ c = .int .i64 k ∧ n = .int .i64 a ∧ a ≤ 9223372036854775807 ∧ a = valD (s.data.toList.take k)) (fun _ i => s.size - (intOf i).toNat)
  case atStart => exact ⟨0, 0, Nat.zero_le _, rfl, rfl, by omega, by simp [valD]⟩
  case round =>
    obtain ⟨k, a, hk, rfl, rfl, ha9, ha⟩ := hrel
    have HQ := Lib.hid ha; clear ha
    by_cases hlt : k < s.size
    · have hdig := dig_at HA.out (k := k) (by rw [size_toList]; exact hlt)
      rw [byte_at s k hlt] at hdig
      have hd : dg s[k] = s[k].toNat - 48 := rfl
      have HV := Lib.hid (val_take hlt)
      by_cases hb : (9223372036854775807 - ((s[k].toNat : Int) - 48)) / 10 < a
      · go_wp2
        go_ret2
        exact ⟨(numR_no (numE_big HE.out H0.out (by
          have h1 := val_le s.data.toList (k + 1)
          rw [HV.out, ← HQ.out, hd] at h1
          omega)) (by decide)).symm, rfl⟩
      · go_wp2
        go_round
        case rel => exact ⟨k + 1, 10 * a + dg s[k], by omega, by go_num, by rw [hd]; go_num, by rw [hd]; omega, by rw [HV.out, HQ.out]⟩
        case measure => simp [intOf]; omega
    · have hall : s.data.toList.take k = s.data.toList := List.take_of_length_le (by rw [size_toList]; omega)
      have hav : a = valD s.data.toList := by rw [HQ.out, hall]
      have HAV := Lib.hid hav; clear hav hall
      go_wp2
      go_ret2
      exact ⟨(numR_ok (numE_ok HE.out H0.out (by rw [← HAV.out]; omega)) (by rw [← HAV.out])).symm, rfl⟩

set_option maxHeartbeats 400000 in
theorem rNumber_any (s : ByteArray) (w : World) (hs : s.size ≤ maxLen) :
    Calls Tryz.prog 81 #[.string s] w fun e w' => e = numR s.data.toList ∧ w = w' := by
  by_cases hl : lookE s.data.toList = 0
  · by_cases h0 : s.data.toList = []
    · have hy := isEmpty_yes h0
      have HE := Lib.hid hl; have H0 := Lib.hid h0
      clear hl h0
      go_enter Tryz.func81, Tryz.ntmps81
      go_wp2_with fail
      refine (texts_any s _ hs).mono ?_
      rintro e w' ⟨rfl, rfl⟩
      rw [HE.out]
      go_wp2_with fail
      go_ret2
      exact ⟨(numR_no (by rw [H0.out]; exact numE_nil) (by decide)).symm, rfl⟩
    · exact rNumber_in s w hs hl h0
  · generalize hh : lookE s.data.toList = err at hl
    have HE := Lib.hid hh
    have HN := Lib.hid (numE_look (by rw [hh]; exact hl))
    clear hh
    have hn : (err != 0) = true := by simpa using hl
    have HL := Lib.hid hl; clear hl
    go_enter Tryz.func81, Tryz.ntmps81
    go_wp2_with fail
    refine (texts_any s _ hs).mono ?_
    rintro e w' ⟨rfl, rfl⟩
    rw [HE.out]
    go_wp2_with fail
    go_ret2
    exact ⟨(numR_no (by rw [HN.out, HE.out]) HL.out).symm, rfl⟩

theorem b8_mod (q : Nat) : b8 (48 + (q : Int) % 10) = sg (q % 10) := by
  unfold b8 sg; rw [show (48 + (q : Int) % 10).toNat = 48 + q % 10 by omega]
theorem cons_data (c : UInt8) (t : ByteArray) : ((⟨#[c]⟩ : ByteArray) ++ t).data.toList = c :: t.data.toList := by rw [Go.Joins.data_append]; rfl
theorem ret_bs {k : IntKind} {a : ByteArray} {b : List UInt8} {c d : Int} (h : a.data.toList = b) (h' : c = d) : Ending.returned (.tuple #[.string a, .int k c]) = .returned (.tuple #[.string ⟨b.toArray⟩, .int k d]) := by
  rw [h', ← h]

set_option maxHeartbeats 1000000 in
theorem rText_in (n wd : Int) (w : World) (h : ¬ (n < 0 ∨ wd < 1 ∨ 19 < wd)) (h63 : n ≤ 9223372036854775807) :
    Calls Tryz.prog 113 #[.int .i64 n, .int .i64 wd] w fun e w' => e = .returned (.tuple #[.string ⟨(textV n wd).toArray⟩, .int .i64 (textE n wd)]) ∧ Below w.heap.size w w' := by
  have hcv := run_conv_one (P := Tryz.prog) Tryz.underlying27 Tryz.underlying5 Tryz.underlying9
  obtain ⟨m, rfl⟩ : ∃ m : Nat, n = m := ⟨n.toNat, by omega⟩
  obtain ⟨v, rfl⟩ : ∃ v : Nat, wd = v := ⟨wd.toNat, by omega⟩
  have h1 : 0 ≤ (m : Int) := by omega
  have h2 : 1 ≤ (v : Int) := by omega
  have h3 : (v : Int) ≤ 19 := by omega
  have H := Lib.hid h; clear h
  go_enter Tryz.func113, Tryz.ntmps113
  go_wp2_with fail
  go_loopw [0, 6, 7] (fun n t c wr => ∃ (k q : Nat) (b : ByteArray), k ≤ v ∧ c = .int .i64 k ∧ n = .int .i64 q ∧ q ≤ m ∧ q = m / 10 ^ k ∧ t = .string b ∧ b.size = k ∧ b.data.toList = textD m k ∧ Below w.heap.size w wr) (fun _ _ i _ => v - (intOf i).toNat)
  case atStart => exact ⟨0, m, ⟨#[]⟩, by omega, rfl, rfl, Nat.le_refl _, by simp, rfl, rfl, rfl, Below.refl _ _⟩
  case round =>
    obtain ⟨k, q, b, hk, rfl, rfl, hqm, hq, rfl, hbs, hb, hbel⟩ := hrel
    have HQ := Lib.hid hq; clear hq
    have HB := Lib.hid hb; clear hb
    by_cases hlt : k < v
    · have hbw := hbel.size
      go_wp2
      go_roundw
      case rel =>
        refine ⟨k + 1, q / 10, _, by omega, by go_num, by go_num, Nat.le_trans (Nat.div_le_self _ _) hqm, by rw [HQ.out, div_pow_succ], rfl, ?_, ?_, hbel.alloc hbw _⟩
        · rw [← size_toList, cons_data, List.length_cons, size_toList, hbs]
        · rw [cons_data, textD_succ, HB.out, b8_mod, HQ.out]
      case measure => simp [intOf]; omega
    · obtain rfl : k = v := by omega
      by_cases hz : 0 < q
      · have he := Lib.hid (textE_num H.out (by rw [Int.toNat_natCast, Int.toNat_natCast, ← HQ.out]; exact hz))
        go_wp2
        go_ret2
        exact ⟨ret_str (by rw [textV_no (by rw [he.out]; decide)]) he.out.symm, hbel⟩
      · have he := Lib.hid (textE_ok H.out (by rw [Int.toNat_natCast, Int.toNat_natCast, ← HQ.out]; exact hz))
        go_wp2
        go_ret2
        exact ⟨ret_bs (by rw [HB.out, textV_ok he.out]; simp) he.out.symm, hbel⟩

theorem rText_any (n wd : Int) (w : World) (h63 : n ≤ 9223372036854775807) :
    Calls Tryz.prog 113 #[.int .i64 n, .int .i64 wd] w fun e w' => e = .returned (.tuple #[.string ⟨(textV n wd).toArray⟩, .int .i64 (textE n wd)]) ∧ Below w.heap.size w w' := by
  by_cases h : n < 0 ∨ wd < 1 ∨ 19 < wd
  · have he := Lib.hid (textE_arg h)
    by_cases h1 : n < 0
    · clear h
      go_enter Tryz.func113, Tryz.ntmps113
      go_wp2_with fail
      go_ret2
      exact ⟨ret_str (a := []) (by rw [textV_no (by rw [he.out]; decide)]) he.out.symm, Below.refl _ _⟩
    · by_cases h2 : wd < 1
      · clear h
        go_enter Tryz.func113, Tryz.ntmps113
        go_wp2_with fail
        go_ret2
        exact ⟨ret_str (a := []) (by rw [textV_no (by rw [he.out]; decide)]) he.out.symm, Below.refl _ _⟩
      · have h3 : 19 < wd := by omega
        clear h
        go_enter Tryz.func113, Tryz.ntmps113
        go_wp2_with fail
        go_ret2
        exact ⟨ret_str (a := []) (by rw [textV_no (by rw [he.out]; decide)]) he.out.symm, Below.refl _ _⟩
  · exact rText_in n wd w h h63
end Go.Proofs.YtogpnlfbdhddmaaGreatDoor
namespace Go.Proofs.YtogpnlfbdhddmaaGreatDoor
open Go.RowKit
theorem str_eq2 (s : ByteArray) : s = ⟨s.data.toList.toArray⟩ := by cases s; simp

theorem pairs_snoc : ∀ (l : List UInt8) (a b : UInt8) (n : Nat), l.length = 2 * n → pairs (l ++ [a, b]) = pairs l ++ [UInt8.ofNat (dg a * 16 + dg b)]
  | [], a, b, _, _ => rfl
  | [x], a, b, n, h => by simp only [List.length_cons, List.length_nil] at h; omega
  | x :: y :: l, a, b, n, h => by
    simp only [List.length_cons] at h
    simp only [List.cons_append, pairs, pairs_snoc l a b (n - 1) (by omega)]
theorem pairs_step {l : List UInt8} {j : Nat} (hj : 2 * j + 1 < l.length) : pairs (l.take (2 * j + 2)) = pairs (l.take (2 * j)) ++ [UInt8.ofNat (dg l[2 * j] * 16 + dg l[2 * j + 1])] := by
  have e : l.take (2 * j + 2) = l.take (2 * j) ++ [l[2 * j], l[2 * j + 1]] := by
    rw [show 2 * j + 2 = (2 * j + 1) + 1 by omega, List.take_succ_eq_append_getElem hj, List.take_succ_eq_append_getElem (by omega), List.append_assoc]; rfl
  rw [e, pairs_snoc _ _ _ j (by rw [List.length_take]; omega)]
def rPackRel (w : World) (l : List UInt8) (m : Nat) (v i : Value) (wr : World) : Prop :=
  ∃ (j : Nat) (A' : Option Addr) (c' : Nat), j ≤ m ∧ i = .int .i64 (2 * (j : Int)) ∧ v = .slice A' j c' ∧ Row wr w.heap.size 1 A' j c' (bv (pairs (l.take (2 * j)))) ∧ Below w.heap.size w wr
theorem pair_byte {a b : UInt8} (ha : isDig a = true) (hb : isDig b = true) : [Value.int .u8 (((a.toNat : Int) - 48) * 16 + ((b.toNat : Int) - 48))] = bv [UInt8.ofNat (dg a * 16 + dg b)] := by
  have h1 := isDig_iff.1 ha
  have h2 := isDig_iff.1 hb
  simp only [bv, List.map_cons, List.map_nil, UInt8.toNat_ofNat']
  unfold dg
  congr 2
  omega

set_option maxRecDepth 100000 in
set_option maxHeartbeats 2000000 in
theorem rPack_ok (s : ByteArray) (w : World) (hs : s.size ≤ maxLen) (he : lookE s.data.toList = 0) :
    Calls Tryz.prog 48 #[.string s] w fun e w' => ∃ A n c, e = .returned (.tuple #[.slice A n c, .int .i64 0]) ∧ Row w' w.heap.size 1 A n c (bv (packB s.data.toList)) ∧ Below w.heap.size w w' := by
  obtain ⟨i0, hi, hz0, hz1, hz2⟩ := info_parts byte_info
  have HE := Lib.hid he
  obtain ⟨ha, hb⟩ := lookE_ok.1 he
  have HPB := Lib.hid (show packB s.data.toList = pairs (evened s.data.toList) from if_pos he)
  have hev := evened_dig ha
  have hel := length_evened s.data.toList
  rw [size_toList] at hb hel
  clear ha he
  obtain ⟨m, hm⟩ : ∃ m, m = (s.size + 1) / 2 := ⟨_, rfl⟩
  rw [← hm] at hel
  have hm5 : m ≤ 500 := by omega
  obtain ⟨s2, hs2⟩ : ∃ s2 : ByteArray, s2.data.toList = evened s.data.toList := ⟨⟨(evened s.data.toList).toArray⟩, rfl⟩
  have hsz2 : s2.size = 2 * m := by rw [← size_toList, hs2, hel]
  rw [← hs2] at hev
  have hm1 : s2.size ≤ 2 * m := by omega
  have hm2 : 2 * m ≤ s2.size := by omega
  have HEV := Lib.hid hev
  have HS2 := Lib.hid hs2
  have HSZ := Lib.hid hsz2
  clear hm hel hev hsz2
  have hres : ∀ A n c w', Row w' w.heap.size 1 A n c (bv (pairs (s2.data.toList.take (2 * m)))) → Row w' w.heap.size 1 A n c (bv (packB s.data.toList)) := by
    intro A n c w' h
    rw [HPB.out, ← HS2.out]
    rw [List.take_of_length_le (by rw [size_toList]; omega)] at h
    exact h
  have HRES := Lib.hid hres
  clear hres
  have hways : (((s.size : Int) % 2 == 1) = true ∧ (⟨#[48]⟩ ++ s : ByteArray) = s2) ∨ (((s.size : Int) % 2 == 1) = false ∧ s2 = s) := by
    by_cases hodd : (s.size : Int) % 2 = 1
    · refine .inl ⟨by rw [hodd]; rfl, ?_⟩
      rw [str_eq2 s2, hs2, str_eq2 (⟨#[48]⟩ ++ s : ByteArray), Go.Joins.data_append]
      unfold evened
      rw [if_pos (by rw [size_toList]; omega)]
      rfl
    · refine .inr ⟨by rw [beq_eq_false_iff_ne]; exact hodd, ?_⟩
      rw [str_eq2 s2, hs2]
      unfold evened
      rw [if_neg (by rw [size_toList]; omega), ← str_eq2]
  clear hs2
  rcases hways with ⟨hb1, e2⟩ | ⟨hb1, e2⟩
  rotate_left
  subst e2
  rotate_left
  all_goals
    go_enter Tryz.func48, Tryz.ntmps48
    go_wp2_with fail
    refine (texts_any _ _ hs).mono ?_
    rintro e w' ⟨rfl, rfl⟩
    rw [HE.out]
    go_wp2_with fail
    try clear e2
    go_loopw [5, 6] (fun v i wr => rPackRel w s2.data.toList m v i wr) (fun _ i _ => 2 * m - (intOf i).toNat)
    case atStart => exact ⟨0, none, 0, by omega, rfl, rfl, Row.nil_ _ _ _, Below.refl _ _⟩
    case round =>
      obtain ⟨j, A', c', hj, rfl, rfl, hrow, hbel⟩ := hrel
      have HROW := Lib.hid hrow
      have hbw := hbel.size
      clear hrow
      by_cases hlt : j < m
      · have hj1 : 2 * j + 1 < s2.size := by omega
        have hst := pairs_step (l := s2.data.toList) (j := j) (by rw [size_toList]; exact hj1)
        rw [byte_at s2 (2 * j) (by omega), byte_at s2 (2 * j + 1) hj1] at hst
        have hd0 : isDig (s2[2 * j]'(by omega)) = true := by rw [← byte_at s2 (2 * j) (by omega)]; exact List.all_eq_true.1 HEV.out _ (List.getElem_mem _)
        have hd1 : isDig (s2[2 * j + 1]'hj1) = true := by rw [← byte_at s2 (2 * j + 1) hj1]; exact List.all_eq_true.1 HEV.out _ (List.getElem_mem _)
        have hp := pair_byte hd0 hd1
        have b0 := isDig_iff.1 hd0
        have b1 := isDig_iff.1 hd1
        have HST := Lib.hid hst
        have HP := Lib.hid hp
        clear hst hp hd0 hd1
        have f1 : (0 : Int) ≤ 2 * (j : Int) := by omega
        have f2 : (2 * (j : Int)) < s2.size := by omega
        have f3 : (0 : Int) ≤ 2 * (j : Int) + 1 := by omega
        have f4 : (2 * (j : Int) + 1) < s2.size := by omega
        have f5 : (2 * (j : Int)).toNat = 2 * j := by omega
        have f6 : (2 * (j : Int) + 1).toNat = 2 * j + 1 := by omega
        have f7 : IntKind.i64.wrap (2 * (j : Int) + 1) = 2 * (j : Int) + 1 := IntWalk.i64_in _ (by omega)
        have f8 : IntKind.u8.wrap (((s2[2 * j]'(by omega)).toNat : Int) - 48) = ((s2[2 * j]'(by omega)).toNat : Int) - 48 := by rw [IntKind.wrap_u8']; omega
        have f9 : IntKind.u8.wrap ((((s2[2 * j]'(by omega)).toNat : Int) - 48) * 16) = (((s2[2 * j]'(by omega)).toNat : Int) - 48) * 16 := by rw [IntKind.wrap_u8']; omega
        have f10 : IntKind.u8.wrap (((s2[2 * j + 1]'hj1).toNat : Int) - 48) = ((s2[2 * j + 1]'hj1).toNat : Int) - 48 := by rw [IntKind.wrap_u8']; omega
        have f11 : IntKind.u8.wrap ((((s2[2 * j]'(by omega)).toNat : Int) - 48) * 16 + (((s2[2 * j + 1]'hj1).toNat : Int) - 48)) = (((s2[2 * j]'(by omega)).toNat : Int) - 48) * 16 + (((s2[2 * j + 1]'hj1).toNat : Int) - 48) := by rw [IntKind.wrap_u8']; omega
        go_wp2_with fail
        go_region_law (refine step_append_row rfl (.tmp 24) (.tmp 36) rfl Tryz.underlying27 hi hz0 hz1 hz2 rfl (by decide) rfl (HROW.out.alloc _).drew rfl (Reads.lit _ _ _ (n := 1) rfl).drew (by intro v hv; simp at hv; rcases hv with rfl; rfl) (by unfold maxLen; omega) (by omega) (by simp; omega) ?_; intro A2 c2 w2 hrow2 hgr2 hat2)
        all_goals
          go_wp2_with fail
          go_roundw
          case rel => exact ⟨j + 1, A2, c2, by omega, by go_num, rfl, by rw [show 2 * (j + 1) = 2 * j + 2 by omega, HST.out, bv_append, ← HP.out]; exact hrow2, (hbel.alloc hbw _).drew.grown hgr2 (by simp; omega) HROW.out.blocks⟩
          case measure => simp [intOf]; omega
      · obtain rfl : j = m := by omega
        go_wp2_with fail
        go_ret2
        exact ⟨_, _, _, rfl, HRES.out _ _ _ _ HROW.out, hbel⟩

theorem rPack_no (s : ByteArray) (w : World) (hs : s.size ≤ maxLen) (he : lookE s.data.toList ≠ 0) :
    Calls Tryz.prog 48 #[.string s] w fun e w' => e = .returned (.tuple #[.slice none 0 0, .int .i64 (lookE s.data.toList)]) ∧ w = w' := by
  generalize hh : lookE s.data.toList = err at he
  have HE := Lib.hid hh; clear hh
  have hn : (err != 0) = true := by simpa using he
  clear he
  go_enter Tryz.func48, Tryz.ntmps48
  go_wp2_with fail
  refine (texts_any s _ hs).mono ?_
  rintro e w' ⟨rfl, rfl⟩
  rw [HE.out]
  go_wp2_with fail
  go_ret2
  exact ⟨rfl, rfl⟩

theorem rPack_any (s : ByteArray) (w : World) (hs : s.size ≤ maxLen) :
    Calls Tryz.prog 48 #[.string s] w fun e w' => ∃ A n c, e = .returned (.tuple #[.slice A n c, .int .i64 (lookE s.data.toList)]) ∧ Row w' w.heap.size 1 A n c (bv (packB s.data.toList)) ∧ Below w.heap.size w w' := by
  by_cases h : lookE s.data.toList = 0
  · refine (rPack_ok s w hs h).mono fun e w' ⟨A, n, c, h1, h2, h3⟩ => ⟨A, n, c, by rw [h]; exact h1, h2, h3⟩
  · refine (rPack_no s w hs h).mono fun e w' ⟨h1, h2⟩ => ?_
    subst h2
    exact ⟨none, 0, 0, h1, by unfold packB; rw [if_neg h]; exact Row.nil_ _ _ _, Below.refl _ _⟩
end Go.Proofs.YtogpnlfbdhddmaaGreatDoor
namespace Go.Proofs.YtogpnlfbdhddmaaGreatDoor
open Go.RowKit

abbrev Sl := Option Addr × Nat × Nat
def Sl.val (x : Sl) : Value := .slice x.1 x.2.1 x.2.2
/-- The blocks of some rows that have room. -/
def blocksOf (R : List Sl) (k : Nat) : Prop := ∃ x ∈ R, ∃ a : Addr, x.1 = some a ∧ 0 < x.2.2 ∧ k = a.block
/-- The first k cells of a row hold v. -/
def Full (w : World) (x : Sl) (v : Int) (k : Nat) : Prop := ∀ a, x.1 = some a → ∀ j, j < k → w.cell? ⟨a.block, a.off + j, none⟩ = some (.int .u8 v)
/-- Rows that their owner may write over. -/
structure OwnedRows (w : World) (bo : Nat) (R : List Sl) : Prop where
  cell : ∀ i x, R[i]? = some x → w.cell? ⟨bo, i, none⟩ = some x.val
  row : ∀ x ∈ R, ∃ base xs, Row w base 1 x.1 x.2.1 x.2.2 xs
  apart : ∀ (i j : Nat) x y a b, R[i]? = some x → R[j]? = some y → i ≠ j → x.1 = some a → y.1 = some b → 0 < x.2.2 → 0 < y.2.2 → a.block ≠ b.block
  outer : ¬ blocksOf R bo

theorem Full.other {w : World} {x : Sl} {v : Int} {k : Nat} (h : Full w x v k) {p : Addr} (hp : ∀ a, x.1 = some a → 0 < k → a.block ≠ p.block) (u : Value) : Full (w.setCell p u) x v k := fun a ha j hj => by
  rw [World.cell?_setCell_other w p _ u (fun e => hp a ha (by omega) (by rw [e]))]
  exact h a ha j hj
theorem Full.next {w : World} {A : Option Addr} {n c g o : Nat} {v : Int} {k : Nat} (hA : A = some ⟨g, o, none⟩) (h : Full w (A, n, c) v k) (hs : (w.cell? ⟨g, o + k, none⟩).isSome = true) : Full (w.setCell ⟨g, o + k, none⟩ (.int .u8 v)) (A, n, c) v (k + 1) := fun a ha j hj => by
  have ha' : A = some a := ha
  rw [hA] at ha'
  simp only [Option.some.injEq] at ha'
  subst ha'
  obtain ⟨z, hz⟩ := Option.isSome_iff_exists.1 hs
  by_cases e : j = k
  · subst e; exact World.cell?_setCell_same w _ _ hz
  · rw [World.cell?_setCell_other w _ _ _ (by simp only [ne_eq, Addr.mk.injEq, and_true, true_and]; omega)]
    exact h _ hA j (by omega)

set_option maxRecDepth 100000 in
set_option maxHeartbeats 4000000 in
theorem Owned_any (bo co : Nat) (R : List Sl) (w : World) (h : OwnedRows w bo R) (hn : R.length ≤ 200) :
    Calls Tryz.prog 18 #[.slice (some ⟨bo, 0, none⟩) R.length co] w fun e w' => e = .returned (.bool true) ∧ Only (blocksOf R) w w' := by
  go_enter Tryz.func18, Tryz.ntmps18
  go_wp2_with fail
  go_loopw [3] (fun i wr => ∃ k : Nat, k ≤ R.length ∧ i = .int .i64 k ∧ Only (blocksOf R) w wr ∧ ∀ j x, j < k → R[j]? = some x → Full wr x (j + 1) x.2.2) (fun i _ => R.length - (intOf i).toNat)
  case atStart => exact ⟨0, by omega, rfl, Only.refl _ _, fun j x hj => by omega⟩
  case round =>
    obtain ⟨i, hi, rfl, hon, hfull⟩ := hrel
    obtain ⟨wo, rfl⟩ : ∃ wo : World, wo = wr := ⟨_, rfl⟩
    by_cases hlt : i < R.length
    · obtain ⟨A, n, c, hx⟩ : ∃ A n c, R[i]? = some (A, n, c) := ⟨_, _, _, List.getElem?_eq_getElem hlt⟩
      have hcell : wo.cell? ⟨bo, i, none⟩ = some (.slice A n c) := (hon.cell h.outer).trans (h.cell i _ hx)
      obtain ⟨base, xs, hrow⟩ := h.row _ (List.mem_of_getElem? hx)
      have hnc := hrow.2.1
      have hcm := hrow.2.2.1
      unfold maxLen at hcm
      have HX := Lib.hid hx
      have HF := Lib.hid hfull
      clear hx hfull
      go_wp2_with fail
      go_quiet (fail)
      go_wp2_with fail
      rename_i nq _
      go_loopw [5] (fun kk w2 => ∃ k : Nat, k ≤ c ∧ kk = .int .i64 k ∧ Only (blocksOf R) w w2 ∧ (∀ j x, j < i → R[j]? = some x → Full w2 x (j + 1) x.2.2) ∧ Full w2 (A, n, c) (i + 1) k) (fun kk _ => c - (intOf kk).toNat)
      case atStart => exact ⟨0, by omega, rfl, hon.drewN _, fun j x hj hx => HF.out j x hj hx, fun a _ j hj => by omega⟩
      case round =>
        obtain ⟨k, hk, rfl, hon2, hprev, hfull2⟩ := hrel
        have HP := Lib.hid hprev
        have HF2 := Lib.hid hfull2
        clear hprev hfull2
        by_cases hlk : k < c
        · obtain ⟨g, o, hA⟩ : ∃ g o, A = some ⟨g, o, none⟩ := by
            cases hA : A with
            | none => have := hrow.2.2.2.1 hA; omega
            | some ad => obtain ⟨g, o, rfl, _⟩ := hrow.2.2.2.2 _ hA; exact ⟨g, o, rfl⟩
          have hrow' := hrow
          simp only [hA] at hrow'
          have hthere := (hrow'.at_.2.2.1 k (by omega)).1
          have hfz := (hrow'.at_.2.2.1 k (by omega)).2
          rw [← hon2.there] at hthere
          rw [← hon2.frozen] at hfz
          obtain ⟨u0, hc0⟩ := Option.isSome_iff_exists.1 hthere
          have hin : blocksOf R g := ⟨_, List.mem_of_getElem? HX.out, _, hA, by show 0 < c; omega, rfl⟩
          have HS := Lib.hid (hon2.setCell (p := ⟨g, o + k, none⟩) hin hthere (.int .u8 ((i : Int) + 1)))
          have HN := Lib.hid (HF2.out.next hA hthere)
          have HO := Lib.hid (show ∀ j x, j < i → R[j]? = some x → Full (wr.setCell ⟨g, o + k, none⟩ (.int .u8 ((i : Int) + 1))) x (j + 1) x.2.2 from fun j x hj hx =>
            (HP.out j x hj hx).other (p := ⟨g, o + k, none⟩) (fun a ha hpos => h.apart j i x (A, n, c) a ⟨g, o, none⟩ hx HX.out (by omega) ha hA hpos (by show 0 < c; omega)) _)
          have HA := Lib.hid hA
          subst hA
          clear hthere hin
          go_wp2_with fail
          go_roundw
          case rel => exact ⟨k + 1, by omega, by go_num, HS.out, HO.out, HN.out⟩
          case measure => simp [intOf]; omega
        · obtain rfl : k = c := by omega
          go_wp2_with fail
          go_roundw
          case rel =>
            refine ⟨i + 1, by omega, by go_num, hon2, fun j x hj hx => ?_⟩
            rcases Nat.lt_or_ge j i with h' | h'
            · exact HP.out j x h' hx
            · obtain rfl : j = i := by omega
              have e := hx.symm.trans HX.out
              simp only [Option.some.injEq] at e
              subst e
              exact HF2.out
          case measure => simp [intOf]; omega
    · obtain rfl : i = R.length := by omega
      have HF := Lib.hid hfull
      clear hfull
      go_wp2_with fail
      go_loopw [6] (fun i wr => ∃ k m : Nat, k ≤ R.length ∧ i = .int .i64 k ∧ wr = wo.drewN m) (fun i _ => R.length - (intOf i).toNat)
      case atStart => exact ⟨0, 0, by omega, rfl, rfl⟩
      case round =>
        obtain ⟨i, m, hi, rfl, rfl⟩ := hrel
        by_cases hlt : i < R.length
        · obtain ⟨A, n, c, hx⟩ : ∃ A n c, R[i]? = some (A, n, c) := ⟨_, _, _, List.getElem?_eq_getElem hlt⟩
          have hcell : wo.cell? ⟨bo, i, none⟩ = some (.slice A n c) := (hon.cell h.outer).trans (h.cell i _ hx)
          obtain ⟨base, xs, hrow⟩ := h.row _ (List.mem_of_getElem? hx)
          have hnc := hrow.2.1
          have hcm := hrow.2.2.1
          unfold maxLen at hcm
          have HX := Lib.hid hx
          clear hx
          go_wp2_with fail
          go_quiet (fail)
          go_wp2_with fail
          rename_i nq _
          go_loopw [8] (fun kk wr => ∃ k m : Nat, k ≤ c ∧ kk = .int .i64 k ∧ wr = wo.drewN m) (fun kk _ => c - (intOf kk).toNat)
          case atStart => exact ⟨0, m + nq, by omega, rfl, by simp⟩
          case round =>
            obtain ⟨k, m2, hk, rfl, rfl⟩ := hrel
            by_cases hlk : k < c
            · obtain ⟨g, o, hA⟩ : ∃ g o, A = some ⟨g, o, none⟩ := by
                cases hA : A with
                | none => have := hrow.2.2.2.1 hA; omega
                | some ad => obtain ⟨g, o, rfl, _⟩ := hrow.2.2.2.2 _ hA; exact ⟨g, o, rfl⟩
              have hc0 := HF.out i (A, n, c) hlt HX.out ⟨g, o, none⟩ hA k hlk
              subst hA
              have he : ((i : Int) + 1 != (i : Int) + 1) = false := by simp
              clear hrow
              go_wp2_with fail
              go_roundw
              case rel => exact ⟨k + 1, m2, by omega, by go_num, rfl⟩
              case measure => simp [intOf]; omega
            · obtain rfl : k = c := by omega
              go_wp2_with fail
              go_roundw
              case rel => exact ⟨i + 1, m2, by omega, by go_num, rfl⟩
              case measure => simp [intOf]; omega
        · go_wp2_with fail
          go_ret
          exact ⟨rfl, hon.drewN _⟩
end Go.Proofs.YtogpnlfbdhddmaaGreatDoor
