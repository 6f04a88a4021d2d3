/- THE WALK of ffx's Mask. -/
import Derived.Test.YtiijjpjkfiookaaGreatDoorGFfx
namespace Go.Proofs.YtiijjpjkfiookaaGreatDoor
open Go.RowKit

set_option maxRecDepth 100000 in
set_option maxHeartbeats 4000000 in
theorem Mask_yes (cb : Nat) (X : Nat → Prop) (key tw : List UInt8) (n i x : Nat) (w : World) (h : CipAt w cb X key tw) (hk : key.length = 16 ∨ key.length = 32) (ht : tw.length ≤ 16) (h6 : 6 ≤ n) (h32 : n ≤ 32) (hi : i ≤ 9) (hx : x < 10 ^ halfN n (i + 1)) :
    Calls Tryz.prog 15 #[.pointer (some ⟨cb, 0, none⟩), .int .i64 n, .int .i64 i, .int .i64 x] w fun e w' => e = .returned (.tuple #[.int .i64 (maskV key tw n i x : Nat), .int .i64 0]) ∧ CipOut cb X key tw w w' := by
  have hp16 := pow_half (n := n) (i := i + 1) h32
  have HM := Lib.hid (fun w => may_any (n : Int) w)
  rw [show fmayB (n : Int) = true from decide_eq_true (by omega)] at HM
  have HHF := Lib.hid (fun w => half_any n (i + 1) w (by omega) (by omega))
  have HPW := Lib.hid (fun w => Power_any (halfN n (i + 1) : Nat) w)
  rw [half_powV h6 h32] at HPW
  obtain ⟨hf, hhf⟩ : ∃ hf, hf = halfN n (i + 1) := ⟨_, rfl⟩
  rw [← hhf] at HHF HPW hx hp16
  obtain ⟨P, hP⟩ : ∃ P, P = 10 ^ hf := ⟨_, rfl⟩
  rw [← hP] at HPW hx hp16
  have HMK := Lib.hid (fun w1 (h1 : CipAt w1 cb X key tw) => mask_any cb X key tw n i x w1 h1 hk ht h6 h32 hi (by omega))
  have H := Lib.hid h
  have hi1 : ((i + 1 : Nat) : Int) = (i : Int) + 1 := by omega
  rw [hi1] at HHF
  have hxp : (x : Int) < (P : Int) := by omega
  have hi0 : ¬ (i : Int) < 0 := by omega
  have hi9 : (i : Int) < 10 := by omega
  have hx0 : ¬ (x : Int) < 0 := by omega
  clear h hk ht hhf hP hi1
  go_enter Tryz.func15, Tryz.ntmps15
  go_wp2_with fail
  refine (HM.out _).mono ?_
  rintro e w1 ⟨rfl, rfl⟩
  go_wp2_with fail
  refine (HHF.out _).mono ?_
  rintro e w1 ⟨rfl, rfl⟩
  go_wp2_with fail
  refine (HPW.out _).mono ?_
  rintro e w1 ⟨rfl, hb1⟩
  have HB1 := Lib.hid hb1
  have HMK1 := Lib.hid (HMK.out w1 (H.out.below hb1 (Nat.le_refl _)))
  clear hb1
  go_wp2_with fail
  refine HMK1.out.mono ?_
  rintro e w2 ⟨rfl, hco⟩
  have HCO := Lib.hid hco
  clear hco
  go_wp2_with fail
  go_ret2
  refine ⟨rfl, ?_⟩
  obtain ⟨X2, q1, q2, q3⟩ := HCO.out
  have hs := HB1.out.size
  refine ⟨X2, fun k hk => ?_, q2, (Grew.of_new HB1.out).trans q3⟩
  rcases q1 k hk with h1 | h1
  · by_cases hw : k < w.heap.size
    · exact .inl ⟨h1.1, hw⟩
    · exact .inr (by omega)
  · exact .inr (by omega)
end Go.Proofs.YtiijjpjkfiookaaGreatDoor
