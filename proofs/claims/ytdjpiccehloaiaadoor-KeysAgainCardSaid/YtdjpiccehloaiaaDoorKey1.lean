/- THE WALKS of keys: names, rings in memory, New. -/
import Derived.Test.YtdjpiccehloaiaaDoorMacV
import Derived.Test.YtdjpiccehloaiaaDoorFactsTail
import Derived.Test.YtdjpiccehloaiaaDoorTab
import Derived.Test.YtdjpiccehloaiaaDoorKeyP
namespace Go.Proofs.YtdjpiccehloaiaaDoor
open Go.RowKit

set_option maxHeartbeats 1000000 in
theorem Name_any (p : Int) (w : World) : Calls Tryd.prog 13 #[.int .i64 p] w fun e w' => e = .returned (.tuple #[.string (nameS p), .bool (nameB p)]) ∧ Below w.heap.size w w' := by
  by_cases h : 1 ≤ p ∧ p ≤ 4
  · obtain ⟨h1, h4⟩ := h
    have hc : p = 1 ∨ p = 2 ∨ p = 3 ∨ p = 4 := by omega
    rcases hc with rfl | rfl | rfl | rfl
    all_goals
      go_enter Tryd.func13, Tryd.ntmps13
      go_wp2_with fail
      go_ret2
      exact ⟨rfl, ((((((Below.refl _ _).alloc (Nat.le_refl _) _))))) ⟩
  · have HS := Lib.hid (nameS_no h)
    have HB := Lib.hid (nameB_no h)
    by_cases h1 : p < 1
    · clear h
      go_enter Tryd.func13, Tryd.ntmps13
      go_wp2_with fail
      go_ret2
      exact ⟨by rw [HS.out, HB.out]; rfl, (((((Below.refl _ _).alloc (Nat.le_refl _) _))))⟩
    · have h5 : 5 ≤ p := by omega
      clear h
      go_enter Tryd.func13, Tryd.ntmps13
      go_wp2_with fail
      go_ret2
      exact ⟨by rw [HS.out, HB.out]; rfl, (((((Below.refl _ _).alloc (Nat.le_refl _) _))))⟩
theorem rName_any (p : Int) (w : World) : Calls Tryd.prog 14 #[.int .i64 p] w fun e w' => e = .returned (.tuple #[.string (nameS p), .bool (nameB p)]) ∧ w = w' := by
  by_cases h : 1 ≤ p ∧ p ≤ 4
  · obtain ⟨h1, h4⟩ := h
    have hc : p = 1 ∨ p = 2 ∨ p = 3 ∨ p = 4 := by omega
    rcases hc with rfl | rfl | rfl | rfl
    all_goals
      go_enter Tryd.func14, Tryd.ntmps14
      go_wp2_with fail
      go_ret2
      exact ⟨rfl, rfl⟩
  · have HS := Lib.hid (nameS_no h)
    have HB := Lib.hid (nameB_no h)
    have e1 : (p == 1) = false := by simp; omega
    have e2 : (p == 2) = false := by simp; omega
    have e3 : (p == 3) = false := by simp; omega
    have e4 : (p == 4) = false := by simp; omega
    clear h
    go_enter Tryd.func14, Tryd.ntmps14
    go_wp2_with fail
    go_ret2
    exact ⟨by rw [HS.out, HB.out]; rfl, rfl⟩
end Go.Proofs.YtdjpiccehloaiaaDoor
