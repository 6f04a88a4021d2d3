/- THE WALK of the law RadixRests. -/
import Derived.Test.YtiijjpjkfiookaaDoorRadNum
import Derived.Test.YtiijjpjkfiookaaDoorRadAdd
import Derived.Test.YtiijjpjkfiookaaDoorLent
namespace Go.Proofs.YtiijjpjkfiookaaDoor
open Go.RowKit

theorem restR_form (l : List UInt8) (k : Int) : ∃ v e : Int, restR l k = .returned (.tuple #[.int .i64 v, .int .i64 e]) := by
  unfold restR
  split
  · exact ⟨_, _, rfl⟩
  · split
    · exact ⟨_, _, rfl⟩
    · exact ⟨_, _, rfl⟩
theorem addR_form (a b k : Int) : ∃ v e : Int, addR a b k = .returned (.tuple #[.int .i64 v, .int .i64 e]) := by
  unfold addR; split <;> exact ⟨_, _, rfl⟩
theorem subR_form (a b k : Int) : ∃ v e : Int, subR a b k = .returned (.tuple #[.int .i64 v, .int .i64 e]) := by
  unfold subR; split <;> exact ⟨_, _, rfl⟩

set_option maxRecDepth 100000 in
set_option maxHeartbeats 4000000 in
theorem RadixRests_walk (A : Option Addr) (n c : Nat) (l : List UInt8) (x y k : Int) (w : World) (hr : Reads w w.heap.size 1 A n (bv l)) (hc : n ≤ c ∧ c ≤ 140737488351232) (_h1 : (Lit.int .i64 x).wf = true) (_h2 : (Lit.int .i64 y).wf = true) (_h3 : (Lit.int .i64 k).wf = true) :
    Calls Tryd.prog 7 #[.slice A n c, .int .i64 x, .int .i64 y, .int .i64 k] w fun e w' => e = .returned (.bool true) ∧ Below w.heap.size w w' := by
  obtain ⟨hnc, hcc⟩ := hc
  obtain ⟨v1, e1, hf1⟩ := restR_form l k
  obtain ⟨v2, e2, hf2⟩ := addR_form x y k
  obtain ⟨v3, e3, hf3⟩ := subR_form x y k
  have F1 := Lib.hid hf1
  have F2 := Lib.hid hf2
  have F3 := Lib.hid hf3
  have HLL := Lib.hid (show l.length = n by have := hr.1; rw [length_bv] at this; omega)
  clear hf1 hf2 hf3
  go_enter Tryd.func7, Tryd.ntmps7
  go_wp2_with fail
  refine (small09_any _).mono ?_
  rintro e w1 ⟨rfl, hb1⟩
  have hr1 := hr.below hb1
  go_wp2_with fail
  refine (Lent_any A n c _ l w1 hr1 hb1.size (by omega)).mono ?_
  rintro e w2 ⟨rfl, hin2, hb2⟩
  have hb12 := thenB hb1 hb2
  have hin2' := hin2.take (k := n) (by omega)
  rw [Nat.mul_one, bv_append, List.take_append_of_le_length (by rw [length_bv, HLL.out]; omega), List.take_of_length_le (by rw [length_bv, HLL.out]; omega)] at hin2'
  go_wp2_with fail
  refine (Rest_any _ n (n + 1) _ l k w2 hin2'.reads (Nat.le_refl _) (by omega)).mono ?_
  rw [F1.out]
  rintro e w3 ⟨rfl, hb3⟩
  have hb13 := thenB hb12 hb3
  have hin3 := hin2.below hb3 (Nat.le_refl _)
  have hr3 := hr.below hb13
  go_wp2_with fail
  refine (Kept_yes A n c _ _ _ l w3 hin3.reads hr3 (by omega)).mono ?_
  rintro e w4 ⟨rfl, rfl⟩
  go_wp2_with fail
  refine (rRest_any A n c _ l k w3 hr3 hnc).mono ?_
  rw [F1.out]
  rintro e w4 ⟨rfl, rfl⟩
  go_wp2_with fail
  refine (Add_any _ _ _ _).mono ?_
  rw [F2.out]
  rintro e w5 ⟨rfl, hb5⟩
  go_wp2_with fail
  refine (rAdd_any _ _ _ _).mono ?_
  rw [F2.out]
  rintro e w6 ⟨rfl, rfl⟩
  go_wp2_with fail
  refine (Sub_any _ _ _ _).mono ?_
  rw [F3.out]
  rintro e w7 ⟨rfl, hb7⟩
  go_wp2_with fail
  refine (rSub_any _ _ _ _).mono ?_
  rw [F3.out]
  rintro e w8 ⟨rfl, rfl⟩
  go_wp2_with fail
  go_ret
  exact ⟨rfl, thenB hb13 (thenB hb5 hb7)⟩
end Go.Proofs.YtiijjpjkfiookaaDoor
