/- THE WALKS of digits and of its reference: check digits, valid texts. -/
import Derived.Test.YtiijjpjkfiookaaDoorDigWalk
import Derived.Outline
import Derived.Test.YtiijjpjkfiookaaDoorLib
import Derived.Test.YtiijjpjkfiookaaDoorDigLaw
namespace Go.Proofs.YtiijjpjkfiookaaDoor
open Go.RowKit

theorem ret_two {k j : IntKind} {a b c d : Int} (h : a = b) (h' : c = d) : Ending.returned (.tuple #[.int k a, .int j c]) = .returned (.tuple #[.int k b, .int j d]) := by rw [h, h']
/-- The digit that Luhn answers, or 0. -/
theorem luhnV_ok {l : List UInt8} (h : lookE l = 0) : luhnV l = (luhn l : Int) := by unfold luhnV; rw [if_pos h]
theorem luhnV_no {l : List UInt8} (h : lookE l ≠ 0) : luhnV l = 0 := by unfold luhnV; rw [if_neg h]

theorem validB_nil {l : List UInt8} (h : l = []) : validB l = false := by subst h; rfl
theorem validB_no {l : List UInt8} (h : lookE l ≠ 0) : validB l = false := by
  rw [Bool.eq_false_iff]; intro hv; exact h (validB_iff.1 hv).2.1
theorem validB_ok {l : List UInt8} (h : l ≠ []) (h0 : lookE l = 0) : validB l = decide (wsum l 0 % 10 = 0) := by
  rw [Bool.eq_iff_iff, validB_iff, decide_eq_true_iff]; exact ⟨fun x => x.2.2, fun x => ⟨h, h0, x⟩⟩
theorem ret_bool {a b : Bool} (h : a = b) : Ending.returned (.bool a) = .returned (.bool b) := by rw [h]
theorem isEmpty_no {s : ByteArray} (h : s.data.toList ≠ []) : s.toList.isEmpty = false := by
  rw [ByteArray.toList_eq]; simpa using h
theorem isEmpty_yes {s : ByteArray} (h : s.data.toList = []) : s.toList.isEmpty = true := by
  rw [ByteArray.toList_eq, h]; rfl

theorem sg_b8 {k : Nat} (h : k ≤ 9) : b8 (48 + (k : Int)) = sg k := by
  unfold b8 sg; rw [show (48 + (k : Int)).toNat = 48 + k by omega]

end Go.Proofs.YtiijjpjkfiookaaDoor
