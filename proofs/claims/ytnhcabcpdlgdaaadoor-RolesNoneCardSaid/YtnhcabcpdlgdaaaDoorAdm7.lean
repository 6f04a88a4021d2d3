/- THE WALK of the law RolesNone. -/
import Derived.Test.YtnhcabcpdlgdaaaDoorAdm6
namespace Go.Proofs.YtnhcabcpdlgdaaaDoor
open Go.RowKit

/-- May one of the first roles? -/
def anyTo (o : Int) : Nat → Bool
  | 0 => false
  | k + 1 => anyTo o k || admMay (k + 1) o
theorem any_all {o : Int} (h : 1 ≤ o ∧ o ≤ 10) : anyTo o 3 = true := by
  obtain rfl | rfl | rfl | rfl | rfl | rfl | rfl | rfl | rfl | rfl : o = 1 ∨ o = 2 ∨ o = 3 ∨ o = 4 ∨ o = 5 ∨ o = 6 ∨ o = 7 ∨ o = 8 ∨ o = 9 ∨ o = 10 := by omega
  all_goals decide
def NoneRel (w : World) (o : Int) (s6 s7 : Value) (wr : World) : Prop := ∃ k : Nat, k ≤ 3 ∧ s7 = .int .i64 (k + 1) ∧ s6 = .bool (anyTo o k) ∧ Below w.heap.size w wr
set_option maxRecDepth 100000 in
set_option maxHeartbeats 4000000 in
theorem RolesNone_in (r o : Int) (w : World) (h1 : 1 ≤ r) (h2 : r ≤ 3) (h3 : 1 ≤ o) (h4 : o ≤ 10) (ht : Tab w) : Calls Tryd.prog 12 #[.int .i64 r, .int .i64 o] w fun e w' => e = .returned (.bool true) ∧ Below w.heap.size w w' := by
  have HA := Lib.hid (any_all ⟨h3, h4⟩)
  have HM0 := Lib.hid (fun w => by have := May_any 0 o w; rw [may_no (by omega)] at this; exact this)
  have HM1 := Lib.hid (fun w => by have := May_any r 0 w; rw [may_no (by omega)] at this; exact this)
  go_enter Tryd.func12, Tryd.ntmps12
  go_wp2_with fail
  refine (small23_any _ ht).mono ?_
  rintro e w1 ⟨rfl, hb1⟩
  have HB1 := Lib.hid hb1
  clear hb1 ht
  go_wp2_with fail
  go_loopw [6, 7] (fun s6 s7 wr => NoneRel w o s6 s7 wr) (fun _ s7 _ => (4 - intOf s7).toNat)
  case atStart => exact ⟨0, by omega, rfl, rfl, HB1.out⟩
  case round =>
    clear HB1
    obtain ⟨k, hk, rfl, rfl, hb⟩ := hrel
    have HB := Lib.hid hb
    clear hb
    by_cases hlt : k < 3
    · have hs : anyTo o (k + 1) = (anyTo o k || admMay (k + 1) o) := rfl
      have HS := Lib.hid hs
      clear hs
      generalize anyTo o k = b at HS ⊢
      cases b with
      | true =>
        go_wp2_with fail
        go_roundw
        case rel => exact ⟨k + 1, by omega, by congr 1, by rw [HS.out]; rfl, HB.out⟩
        case measure => simp [intOf]; omega
      | false =>
        go_wp2_with fail
        refine (May_any _ _ _).mono ?_
        rintro e w2 ⟨rfl, hb2⟩
        have HB2 := Lib.hid (HB.out.trans (hb2.mono HB.out.size))
        clear hb2
        go_wp2_with fail
        go_roundw
        case rel => exact ⟨k + 1, by omega, by congr 1, by rw [HS.out]; rfl, HB2.out⟩
        case measure => simp [intOf]; omega
    · obtain rfl : k = 3 := by omega
      rw [HA.out]
      go_wp2_with fail
      refine (HM0.out _).mono ?_
      rintro e w2 ⟨rfl, hb2⟩
      have HB2 := Lib.hid (HB.out.trans (hb2.mono HB.out.size))
      clear hb2
      go_wp2_with fail
      refine (HM1.out _).mono ?_
      rintro e w3 ⟨rfl, hb3⟩
      have HB3 := Lib.hid (HB2.out.trans (hb3.mono HB2.out.size))
      clear hb3
      go_wp2_with fail
      go_ret
      exact ⟨rfl, HB3.out⟩
set_option maxRecDepth 100000 in
set_option maxHeartbeats 4000000 in
theorem RolesNone_out (r o : Int) (w : World) (h : r < 1 ∨ (1 ≤ r ∧ 3 < r) ∨ (1 ≤ r ∧ r ≤ 3 ∧ o < 1) ∨ (1 ≤ r ∧ r ≤ 3 ∧ 1 ≤ o ∧ 10 < o)) (ht : Tab w) : Calls Tryd.prog 12 #[.int .i64 r, .int .i64 o] w fun e w' => e = .returned (.bool true) ∧ Below w.heap.size w w' := by
  have HM := Lib.hid (fun w => by have := May_any r o w; rw [may_no (by omega)] at this; exact this)
  rcases h with h | ⟨h1, h2⟩ | ⟨h1, h2, h3⟩ | ⟨h1, h2, h3, h4⟩
  all_goals
    go_enter Tryd.func12, Tryd.ntmps12
    go_wp2_with fail
    refine (small23_any _ ht).mono ?_
    rintro e w1 ⟨rfl, hb1⟩
    have HB1 := Lib.hid hb1
    clear hb1 ht
    go_wp2_with fail
    refine (HM.out _).mono ?_
    rintro e w2 ⟨rfl, hb2⟩
    have HB2 := Lib.hid (HB1.out.trans (hb2.mono HB1.out.size))
    clear hb2
    go_wp2_with fail
    go_ret
    exact ⟨rfl, HB2.out⟩
theorem RolesNone_walk (r o : Int) (w : World) (_h1 : (Lit.int .i64 r).wf = true) (_h2 : (Lit.int .i64 o).wf = true) (ht : Tab w) : Calls Tryd.prog 12 #[.int .i64 r, .int .i64 o] w fun e w' => e = .returned (.bool true) ∧ Below w.heap.size w w' := by
  by_cases h : 1 ≤ r ∧ r ≤ 3 ∧ 1 ≤ o ∧ o ≤ 10
  · exact RolesNone_in r o w h.1 h.2.1 h.2.2.1 h.2.2.2 ht
  · exact RolesNone_out r o w (by omega) ht
end Go.Proofs.YtnhcabcpdlgdaaaDoor
