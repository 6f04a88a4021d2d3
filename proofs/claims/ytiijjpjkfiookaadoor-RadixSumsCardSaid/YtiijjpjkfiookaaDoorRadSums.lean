/- THE WALK of the law RadixSums. -/
import Derived.Test.YtiijjpjkfiookaaDoorRadNum
import Derived.Test.YtiijjpjkfiookaaDoorRadAdd
namespace Go.Proofs.YtiijjpjkfiookaaDoor
open Go.RowKit

set_option maxHeartbeats 2000000 in
theorem RadixSums_walk (a b c k : Int) (w : World) (_h1 : (Lit.int .i64 a).wf = true) (_h2 : (Lit.int .i64 b).wf = true) (_h3 : (Lit.int .i64 c).wf = true) (_h4 : (Lit.int .i64 k).wf = true) :
    Calls Tryd.prog 6 #[.int .i64 a, .int .i64 b, .int .i64 c, .int .i64 k] w fun e w' => e = .returned (.bool true) ∧ Below w.heap.size w w' := by
  cases hab : bothB a b k with
  | false =>
    have H1 := Lib.hid (addR_no hab)
    have H2 := Lib.hid (addR_no ((bothB_comm a b k).trans hab))
    clear hab
    go_enter Tryd.func6, Tryd.ntmps6
    go_wp2_with fail
    refine (small09_any _).mono ?_
    rintro e w1 ⟨rfl, hb1⟩
    go_wp2_with fail
    refine (Add_any _ _ _ _).mono ?_
    rw [H1.out]
    rintro e w2 ⟨rfl, hb2⟩
    go_wp2_with fail
    refine (Add_any _ _ _ _).mono ?_
    rw [H2.out]
    rintro e w3 ⟨rfl, hb3⟩
    go_wp2_with fail
    go_ret
    exact ⟨rfl, thenB hb1 (thenB hb2 hb3)⟩
  | true =>
    have H1 := Lib.hid (addR_yes hab)
    have H2 := Lib.hid (addR_yes ((bothB_comm a b k).trans hab))
    have HC := Lib.hid (addV_comm a b k)
    obtain ⟨i1, i2⟩ := addV_in hab
    have hl := bothB_yes hab
    cases hc : inB c k with
    | false =>
      have hx : bothB (addV a b k) c k = false := by unfold bothB; rw [hc, Bool.and_false]
      have hu : bothB b c k = false := by unfold bothB; rw [hc, Bool.and_false]
      have H3 := Lib.hid (addR_no hx)
      have H4 := Lib.hid (addR_no hu)
      clear hab hc hx hu i1 i2 hl
      go_enter Tryd.func6, Tryd.ntmps6
      go_wp2_with fail
      refine (small09_any _).mono ?_
      rintro e w1 ⟨rfl, hb1⟩
      go_wp2_with fail
      refine (Add_any _ _ _ _).mono ?_
      rw [H1.out]
      rintro e w2 ⟨rfl, hb2⟩
      go_wp2_with fail
      refine (Add_any _ _ _ _).mono ?_
      rw [H2.out, HC.out]
      rintro e w3 ⟨rfl, hb3⟩
      go_wp2_with fail
      refine (Add_any _ _ _ _).mono ?_
      rw [H3.out]
      rintro e w4 ⟨rfl, hb4⟩
      go_wp2_with fail
      refine (Add_any _ _ _ _).mono ?_
      rw [H4.out]
      rintro e w5 ⟨rfl, hb5⟩
      generalize addV a b k = x
      go_wp2_with fail
      go_ret
      exact ⟨rfl, thenB hb1 (thenB hb2 (thenB hb3 (thenB hb4 hb5)))⟩
    | true =>
      have hc2 : 0 ≤ c ∧ c < powV k := by unfold inB at hc; simpa using hc
      have hx : bothB (addV a b k) c k = true := bothB_mk i1 i2 hc2.1 hc2.2
      have hu : bothB b c k = true := bothB_mk hl.2.2.1 hl.2.2.2 hc2.1 hc2.2
      have hv : bothB a (addV b c k) k = true := bothB_mk hl.1 hl.2.1 (addV_in hu).1 (addV_in hu).2
      have H3 := Lib.hid (addR_yes hx)
      have H4 := Lib.hid (addR_yes hu)
      have H5 := Lib.hid (addR_yes hv)
      have HA := Lib.hid (addV_assoc a b c k)
      clear hab hc hx hu hv i1 i2 hl hc2
      go_enter Tryd.func6, Tryd.ntmps6
      go_wp2_with fail
      refine (small09_any _).mono ?_
      rintro e w1 ⟨rfl, hb1⟩
      go_wp2_with fail
      refine (Add_any _ _ _ _).mono ?_
      rw [H1.out]
      rintro e w2 ⟨rfl, hb2⟩
      go_wp2_with fail
      refine (Add_any _ _ _ _).mono ?_
      rw [H2.out, HC.out]
      rintro e w3 ⟨rfl, hb3⟩
      go_wp2_with fail
      refine (Add_any _ _ _ _).mono ?_
      rw [H3.out]
      rintro e w4 ⟨rfl, hb4⟩
      go_wp2_with fail
      refine (Add_any _ _ _ _).mono ?_
      rw [H4.out]
      rintro e w5 ⟨rfl, hb5⟩
      go_wp2_with fail
      refine (Add_any _ _ _ _).mono ?_
      rw [H5.out, HA.out]
      rintro e w6 ⟨rfl, hb6⟩
      generalize addV (addV a b k) c k = z
      generalize addV a b k = x
      go_wp2_with fail
      go_ret
      exact ⟨rfl, thenB hb1 (thenB hb2 (thenB hb3 (thenB hb4 (thenB hb5 hb6))))⟩
end Go.Proofs.YtiijjpjkfiookaaDoor
