/- THE WALK of the small case that each law of digits begins with. -/
import Derived.Test.YtkmmmjbmooglfaaDoorDigText
namespace Go.Proofs.YtkmmmjbmooglfaaDoor
open Go.RowKit
theorem k1 : lookE (⟨#[49, 50, 51]⟩ : ByteArray).data.toList = 0 := by decide
theorem k2 : packB (⟨#[49, 50, 51]⟩ : ByteArray).data.toList = [1, 35] := by decide
theorem k3 : lookE (⟨#[55, 57, 57, 50, 55, 51, 57, 56, 55, 49]⟩ : ByteArray).data.toList = 0 := by decide
theorem k4 : luhnV (⟨#[55, 57, 57, 50, 55, 51, 57, 56, 55, 49]⟩ : ByteArray).data.toList = 3 := by decide
theorem k5 : textE 7 3 = 0 := by decide
theorem k6 : textV 7 3 = [48, 48, 55] := by decide
theorem k7 : validB (⟨#[55, 57, 57, 50, 55, 51, 57, 56, 55, 49, 51]⟩ : ByteArray).data.toList = true := by decide
set_option maxHeartbeats 1000000 in
theorem small01_any (w : World) : Calls Tryd.prog 6 #[] w fun e w' => e = .returned (.bool true) ∧ Below w.heap.size w w' := by
  go_enter Tryd.func6, Tryd.ntmps6
  go_wp2_with fail
  refine (Pack_any _ _ (by decide)).mono ?_
  rw [k1, k2]
  rintro e w1 ⟨A, n, c, rfl, hr, hb1⟩
  go_wp2_with fail
  refine (Luhn_any _ _ (by decide)).mono ?_
  rw [k3, k4]
  rintro e w2 ⟨rfl, hb2⟩
  go_wp2_with fail
  refine (Text_any 7 3 _ (by omega)).mono ?_
  rw [k5, k6]
  rintro e w3 ⟨rfl, hb3⟩
  have hr3 := (hr.below hb2 (Nat.le_refl _)).below hb3 (Nat.le_refl _)
  have hcv := run_conv_bytes (P := Tryd.prog) Tryd.underlying30 Tryd.underlying5 Tryd.underlying9 (cap := c) hr3.reads
  go_wp2_with fail
  refine (Valid_any _ _ (by decide)).mono ?_
  rw [k7]
  rintro e w4 ⟨rfl, hb4⟩
  go_wp2_with fail
  go_ret
  refine ⟨rfl, hb1.trans ((hb2.mono hb1.size).trans ((hb3.mono ?_).trans (hb4.mono ?_)))⟩
  · have := hb1.size; have := hb2.size; omega
  · have := hb1.size; have := hb2.size; have := hb3.size; omega
end Go.Proofs.YtkmmmjbmooglfaaDoor
