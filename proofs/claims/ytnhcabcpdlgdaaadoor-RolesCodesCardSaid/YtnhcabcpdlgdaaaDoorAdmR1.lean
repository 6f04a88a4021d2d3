/- THE WALKS of roles' reference: May, Right. -/
import Derived.Test.YtnhcabcpdlgdaaaDoorAdm2
import Derived.Test.YtnhcabcpdlgdaaaDoorDigNum
namespace Go.Proofs.YtnhcabcpdlgdaaaDoor
open Go.RowKit

set_option maxRecDepth 100000 in
set_option maxHeartbeats 4000000 in
theorem rMay_in (r o : Int) (w : World) (h1 : 1 ≤ r) (h2 : r ≤ 3) (h3 : 1 ≤ o) (h4 : o ≤ 10) : Calls Tryd.prog 27 #[.int .i64 r, .int .i64 o] w fun e w' => e = .returned (.bool (admMay r o)) ∧ w = w' := by
  have hr : r = 1 ∨ r = 2 ∨ r = 3 := by omega
  have ho : o = 1 ∨ o = 2 ∨ o = 3 ∨ o = 4 ∨ o = 5 ∨ o = 6 ∨ o = 7 ∨ o = 8 ∨ o = 9 ∨ o = 10 := by omega
  clear h1 h2 h3 h4
  rcases hr with rfl | rfl | rfl
  all_goals
    rcases ho with rfl | rfl | rfl | rfl | rfl | rfl | rfl | rfl | rfl | rfl
  all_goals
    go_enter Tryd.func27, Tryd.ntmps27
    go_wp2_with fail
    go_ret
    exact ⟨adm_ret_bool (by decide), rfl⟩
set_option maxRecDepth 100000 in
set_option maxHeartbeats 4000000 in
theorem rMay_op (r o : Int) (w : World) (h1 : 1 ≤ r) (h2 : r ≤ 3) (h : o < 1 ∨ 10 < o) : Calls Tryd.prog 27 #[.int .i64 r, .int .i64 o] w fun e w' => e = .returned (.bool (admMay r o)) ∧ w = w' := by
  have HN := Lib.hid (may_no (r := r) (o := o) (by omega))
  have g1 : (o == 1) = false := by simp; omega
  have g2 : (o == 2) = false := by simp; omega
  have g3 : (o == 3) = false := by simp; omega
  have g4 : (o == 4) = false := by simp; omega
  have g5 : (o == 5) = false := by simp; omega
  have g6 : (o == 6) = false := by simp; omega
  have g7 : (o == 7) = false := by simp; omega
  have g8 : (o == 8) = false := by simp; omega
  have g9 : (o == 9) = false := by simp; omega
  have g10 : (o == 10) = false := by simp; omega
  clear h
  have hr : r = 1 ∨ r = 2 ∨ r = 3 := by omega
  clear h1 h2
  rcases hr with rfl | rfl | rfl
  all_goals
    go_enter Tryd.func27, Tryd.ntmps27
    go_wp2_with fail
    go_ret
    exact ⟨by rw [HN.out]; rfl, rfl⟩
set_option maxRecDepth 100000 in
set_option maxHeartbeats 4000000 in
theorem rMay_role (r o : Int) (w : World) (h : r < 1 ∨ 3 < r) : Calls Tryd.prog 27 #[.int .i64 r, .int .i64 o] w fun e w' => e = .returned (.bool (admMay r o)) ∧ w = w' := by
  have HN := Lib.hid (may_no (r := r) (o := o) (by omega))
  have g1 : (r == 1) = false := by simp; omega
  have g2 : (r == 2) = false := by simp; omega
  have g3 : (r == 3) = false := by simp; omega
  clear h
  go_enter Tryd.func27, Tryd.ntmps27
  go_wp2_with fail
  go_ret
  exact ⟨by rw [HN.out]; rfl, rfl⟩
theorem rMay_any (r o : Int) (w : World) : Calls Tryd.prog 27 #[.int .i64 r, .int .i64 o] w fun e w' => e = .returned (.bool (admMay r o)) ∧ w = w' := by
  by_cases h : 1 ≤ r ∧ r ≤ 3
  · by_cases k : 1 ≤ o ∧ o ≤ 10
    · exact rMay_in r o w h.1 h.2 k.1 k.2
    · exact rMay_op r o w h.1 h.2 (by omega)
  · exact rMay_role r o w (by omega)

theorem below1 (w : World) (a : Obj) : Below w.heap.size w (w.alloc a) := (Below.refl _ _).alloc (Nat.le_refl _) _
theorem below2 (w : World) (a b : Obj) : Below w.heap.size w ((w.alloc a).alloc b) := (below1 w a).alloc (by simp) _
theorem ne_empty {s : ByteArray} (h : s.size ≠ 0) : s.toList.isEmpty = false ∧ (s.toList == []) = false ∧ (s.toList != []) = true := by
  rw [ByteArray.toList_eq]
  cases e : s.data.toList with
  | nil => exact absurd (by rw [← size_toList, e]; rfl) h
  | cons x l => exact ⟨rfl, rfl, rfl⟩
theorem rule_zero (p q u v : Int) (w : World) (z : Bool) (hz : z = decide (p = 0 ∧ q = 0 ∧ u = 0 ∧ v = 0)) : (Op.equalIn 10000 36 (.agg #[.int .i64 p, .int .i64 q, .int .i64 u, .int .i64 v]) (.agg #[.int .i64 0, .int .i64 0, .int .i64 0, .int .i64 0])).run Tryd.prog w = .ok z w := by
  have h := eqRule p q u v 0 0 0 0 w 9998
  rw [show (p == 0 && (q == 0 && (u == 0 && v == 0))) = z by rw [hz, Bool.eq_iff_iff]; simp] at h
  exact h
set_option maxRecDepth 100000 in
set_option maxHeartbeats 4000000 in
theorem rRight_no (a : Adm) (w : World) (h : admMay a.role a.op = false) : Calls Tryd.prog 29 #[a.val] w fun e w' => e = .returned (.int .i64 a.err) ∧ Below w.heap.size w w' := by
  rw [err_role h]
  have HM := Lib.hid (fun w => by have := rMay_any a.role a.op w; rw [h] at this; exact this)
  clear h
  unfold Adm.val
  go_enter Tryd.func29, Tryd.ntmps29
  go_wp2_with fail
  refine (HM.out _).mono ?_
  rintro e w1 ⟨rfl, rfl⟩
  go_wp2_with fail
  go_ret
  exact ⟨rfl, below1 _ _⟩
end Go.Proofs.YtnhcabcpdlgdaaaDoor
