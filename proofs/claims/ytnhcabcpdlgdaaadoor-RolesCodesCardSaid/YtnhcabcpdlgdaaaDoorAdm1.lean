/- THE WALKS of roles.May, bare, Right, and of the reference's. -/
import Derived.Test.YtnhcabcpdlgdaaaDoorFacts2
import Derived.Test.YtnhcabcpdlgdaaaDoorAdmP
namespace Go.Proofs.YtnhcabcpdlgdaaaDoor
open Go.RowKit

theorem adm_ret_bool {a b : Bool} (h : a = b) : Ending.returned (.bool a) = .returned (.bool b) := by rw [h]
theorem adm_ret_int {a b : Int} (h : a = b) : Ending.returned (.int .i64 a) = .returned (.int .i64 b) := by rw [h]
theorem may_no {r o : Int} (h : r < 1 ∨ 3 < r ∨ o < 1 ∨ 10 < o) : admMay r o = false := by
  cases e : admMay r o with
  | false => rfl
  | true => have := admMay_range e; omega
set_option maxRecDepth 100000 in
set_option maxHeartbeats 4000000 in
theorem May_in (r o : Int) (w : World) (h1 : 1 ≤ r) (h2 : r ≤ 3) (h3 : 1 ≤ o) (h4 : o ≤ 10) : Calls Tryd.prog 26 #[.int .i64 r, .int .i64 o] w fun e w' => e = .returned (.bool (admMay r o)) ∧ Below w.heap.size w w' := by
  have hr : r = 1 ∨ r = 2 ∨ r = 3 := by omega
  have ho : o = 1 ∨ o = 2 ∨ o = 3 ∨ o = 4 ∨ o = 5 ∨ o = 6 ∨ o = 7 ∨ o = 8 ∨ o = 9 ∨ o = 10 := by omega
  clear h1 h2 h3 h4
  rcases hr with rfl | rfl | rfl
  all_goals
    rcases ho with rfl | rfl | rfl | rfl | rfl | rfl | rfl | rfl | rfl | rfl
  all_goals
    go_enter Tryd.func26, Tryd.ntmps26
    go_wp2_with fail
    go_ret
    exact ⟨adm_ret_bool (by decide), (Below.refl _ _).alloc (Nat.le_refl _) _⟩
set_option maxRecDepth 100000 in
set_option maxHeartbeats 4000000 in
theorem May_out (r o : Int) (w : World) (h : r < 0 ∨ 3 < r ∨ (0 ≤ r ∧ r ≤ 3 ∧ o < 1) ∨ (0 ≤ r ∧ r ≤ 3 ∧ 10 < o)) : Calls Tryd.prog 26 #[.int .i64 r, .int .i64 o] w fun e w' => e = .returned (.bool (admMay r o)) ∧ Below w.heap.size w w' := by
  have HN := Lib.hid (may_no (r := r) (o := o) (by omega))
  rcases h with h | h | ⟨h1, h2, h3⟩ | ⟨h1, h2, h3⟩
  all_goals
    go_enter Tryd.func26, Tryd.ntmps26
    go_wp2_with fail
    go_ret
    exact ⟨by rw [HN.out]; rfl, (Below.refl _ _).alloc (Nat.le_refl _) _⟩
set_option maxRecDepth 100000 in
set_option maxHeartbeats 4000000 in
theorem May_zero (o : Int) (w : World) (h3 : 1 ≤ o) (h4 : o ≤ 10) : Calls Tryd.prog 26 #[.int .i64 0, .int .i64 o] w fun e w' => e = .returned (.bool (admMay 0 o)) ∧ Below w.heap.size w w' := by
  have ho : o = 1 ∨ o = 2 ∨ o = 3 ∨ o = 4 ∨ o = 5 ∨ o = 6 ∨ o = 7 ∨ o = 8 ∨ o = 9 ∨ o = 10 := by omega
  clear h3 h4
  rcases ho with rfl | rfl | rfl | rfl | rfl | rfl | rfl | rfl | rfl | rfl
  all_goals
    go_enter Tryd.func26, Tryd.ntmps26
    go_wp2_with fail
    go_ret
    exact ⟨adm_ret_bool (by decide), (Below.refl _ _).alloc (Nat.le_refl _) _⟩
theorem May_any (r o : Int) (w : World) : Calls Tryd.prog 26 #[.int .i64 r, .int .i64 o] w fun e w' => e = .returned (.bool (admMay r o)) ∧ Below w.heap.size w w' := by
  by_cases h : 0 ≤ r ∧ r ≤ 3
  · by_cases k : 1 ≤ o ∧ o ≤ 10
    · by_cases z : r = 0
      · subst z; exact May_zero o w k.1 k.2
      · exact May_in r o w (by omega) h.2 k.1 k.2
    · exact May_out r o w (by omega)
  · exact May_out r o w (by omega)
end Go.Proofs.YtnhcabcpdlgdaaaDoor
