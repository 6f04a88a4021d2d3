/- THE WALKS of digits and of its reference: check digits, valid texts. -/
import Derived.Test.YtnhcabcpdlgdaaaDoorDigWalk
import Derived.Outline
import Derived.Test.YtnhcabcpdlgdaaaDoorLib
import Derived.Test.YtnhcabcpdlgdaaaDoorDigLaw
namespace Go.Proofs.YtnhcabcpdlgdaaaDoor
open Go.RowKit

theorem ret_two {k j : IntKind} {a b c d : Int} (h : a = b) (h' : c = d) : Ending.returned (.tuple #[.int k a, .int j c]) = .returned (.tuple #[.int k b, .int j d]) := by rw [h, h']
/-- The digit that Luhn answers, or 0. -/
theorem luhnV_ok {l : List UInt8} (h : lookE l = 0) : luhnV l = (luhn l : Int) := by unfold luhnV; rw [if_pos h]
theorem luhnV_no {l : List UInt8} (h : lookE l ≠ 0) : luhnV l = 0 := by unfold luhnV; rw [if_neg h]

theorem validB_nil {l : List UInt8} (h : l = []) : validB l = false := by subst h; rfl
theorem validB_no {l : List UInt8} (h : lookE l ≠ 0) : validB l = false := by
  rw [Bool.eq_false_iff]; intro hv; exact h (validB_iff.1 hv).2.1
theorem validB_ok {l : List UInt8} (h : l ≠ []) (h0 : lookE l = 0) : validB l = decide (wsum l 0 % 10 = 0) := by
  rw [Bool.eq_iff_iff, validB_iff, decide_eq_true_iff]; exact ⟨fun x => x.2.2, fun x => ⟨h, h0, x⟩⟩
theorem ret_bool {a b : Bool} (h : a = b) : Ending.returned (.bool a) = .returned (.bool b) := by rw [h]
theorem isEmpty_no {s : ByteArray} (h : s.data.toList ≠ []) : s.toList.isEmpty = false := by
  rw [ByteArray.toList_eq]; simpa using h
theorem isEmpty_yes {s : ByteArray} (h : s.data.toList = []) : s.toList.isEmpty = true := by
  rw [ByteArray.toList_eq, h]; rfl

theorem Valid_any (s : ByteArray) (w : World) (hs : s.size ≤ maxLen) :
    Calls Tryd.prog 42 #[.string s] w fun e w' => e = .returned (.bool (validB s.data.toList)) ∧ Below w.heap.size w w' := by
  by_cases hn : s.data.toList = []
  · have hv := Lib.hid (validB_nil hn)
    have hn2 := isEmpty_yes hn
    have hn3 : (!s.toList.isEmpty) = false := by rw [hn2]; rfl
    clear hn
    go_enter Tryd.func42, Tryd.ntmps42
    go_wp2_with fail
    go_ret
    exact ⟨ret_bool hv.out.symm, Below.refl _ _⟩
  · have hn2 := isEmpty_no hn
    have hn3 : (!s.toList.isEmpty) = true := by rw [hn2]; rfl
    generalize he : lookE s.data.toList = err
    have HE := Lib.hid he
    by_cases h0 : err = 0
    · subst h0
      obtain ⟨ha, hb⟩ := lookE_ok.1 he
      have hw := wsum_le s.data.toList 0 ha
      have HV := Lib.hid (validB_ok hn he)
      have HA := Lib.hid ha
      clear ha he hn
      rw [size_toList] at hb hw
      go_enter Tryd.func42, Tryd.ntmps42
      go_wp2_with fail
      refine (look_any s _ hs).mono ?_
      rintro e w' ⟨rfl, rfl⟩
      rw [HE.out]
      go_wp2_with fail
      refine (weigh_any s 0 _ hb HA.out (by omega) (by omega)).mono ?_
      rintro e w' ⟨rfl, hb'⟩
      by_cases hz : wsum s.data.toList 0 % 10 = 0
      · have hz2 : (((wsum s.data.toList 0 : Nat) : Int) % 10 == 0) = true := by simp; omega
        have HZ := Lib.hid hz; clear hz
        go_wp2
        go_ret
        exact ⟨ret_bool (by rw [HV.out, decide_eq_true HZ.out]), hb'⟩
      · have hz2 : (((wsum s.data.toList 0 : Nat) : Int) % 10 == 0) = false := by simp; omega
        have HZ := Lib.hid hz; clear hz
        go_wp2
        go_ret
        exact ⟨ret_bool (by rw [HV.out, decide_eq_false HZ.out]), hb'⟩
    · have HV := Lib.hid (validB_no (l := s.data.toList) (by rw [he]; exact h0))
      have hne : (err == 0) = false := by simpa using h0
      clear he h0 hn
      go_enter Tryd.func42, Tryd.ntmps42
      go_wp2_with fail
      refine (look_any s _ hs).mono ?_
      rintro e w' ⟨rfl, rfl⟩
      rw [HE.out]
      go_wp2_with fail
      go_ret
      exact ⟨ret_bool HV.out.symm, Below.refl _ _⟩
theorem rValid_any (s : ByteArray) (w : World) (hs : s.size ≤ maxLen) :
    Calls Tryd.prog 43 #[.string s] w fun e w' => e = .returned (.bool (validB s.data.toList)) ∧ w = w' := by
  unfold maxLen at hs
  generalize he : lookE s.data.toList = err
  have HE := Lib.hid he
  by_cases hn : s.data.toList = []
  · have hz : ¬ (0 : Int) < s.size := by rw [← size_toList, hn]; simp
    have hv := Lib.hid (validB_nil hn)
    clear hn he
    by_cases h0 : err = 0
    all_goals
      first | subst h0 | (have hne : (err == 0) = false := by simpa using h0)
      go_enter Tryd.func43, Tryd.ntmps43
      go_wp2_with fail
      refine (texts_any s _ hs).mono ?_
      rintro e w' ⟨rfl, rfl⟩
      rw [HE.out]
      go_wp2_with fail
      go_ret
      exact ⟨ret_bool hv.out.symm, rfl⟩
  · have hz : (0 : Int) < s.size := by
      rw [← size_toList]; have := List.length_pos_iff.2 hn; omega
    by_cases h0 : err = 0
    · subst h0
      obtain ⟨ha, hb⟩ := lookE_ok.1 he
      have hw := wsum_le s.data.toList 0 ha
      have HV := Lib.hid (validB_ok hn he)
      have HA := Lib.hid ha
      clear ha he hn
      rw [size_toList] at hb hw
      go_enter Tryd.func43, Tryd.ntmps43
      go_wp2_with fail
      refine (texts_any s _ hs).mono ?_
      rintro e w' ⟨rfl, rfl⟩
      rw [HE.out]
      go_wp2_with fail
      refine (sum_any s _ (by omega) HA.out).mono ?_
      rintro e w' ⟨rfl, rfl⟩
      by_cases hz : wsum s.data.toList 0 % 10 = 0
      · have hz2 : (((wsum s.data.toList 0 : Nat) : Int) % 10 == 0) = true := by simp; omega
        have HZ := Lib.hid hz; clear hz
        go_wp2
        go_ret
        exact ⟨ret_bool (by rw [HV.out, decide_eq_true HZ.out]), rfl⟩
      · have hz2 : (((wsum s.data.toList 0 : Nat) : Int) % 10 == 0) = false := by simp; omega
        have HZ := Lib.hid hz; clear hz
        go_wp2
        go_ret
        exact ⟨ret_bool (by rw [HV.out, decide_eq_false HZ.out]), rfl⟩
    · have HV := Lib.hid (validB_no (l := s.data.toList) (by rw [he]; exact h0))
      have hne : (err == 0) = false := by simpa using h0
      clear he h0 hn
      go_enter Tryd.func43, Tryd.ntmps43
      go_wp2_with fail
      refine (texts_any s _ hs).mono ?_
      rintro e w' ⟨rfl, rfl⟩
      rw [HE.out]
      go_wp2_with fail
      go_ret
      exact ⟨ret_bool HV.out.symm, rfl⟩
theorem sg_b8 {k : Nat} (h : k ≤ 9) : b8 (48 + (k : Int)) = sg k := by
  unfold b8 sg; rw [show (48 + (k : Int)).toNat = 48 + k by omega]

end Go.Proofs.YtnhcabcpdlgdaaaDoor
