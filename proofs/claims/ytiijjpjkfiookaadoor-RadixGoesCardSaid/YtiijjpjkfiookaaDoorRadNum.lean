/- THE WALKS of the law RadixNumerals. -/
import Derived.Test.YtiijjpjkfiookaaDoorRadVal
import Derived.Test.YtiijjpjkfiookaaDoorRadWid
import Derived.Test.YtiijjpjkfiookaaDoorRadRest
namespace Go.Proofs.YtiijjpjkfiookaaDoor
open Go.RowKit

theorem n1 : numV (⟨#[48, 49, 50, 51]⟩ : ByteArray).data.toList = 123 := by decide
theorem n2 : numE (⟨#[48, 49, 50, 51]⟩ : ByteArray).data.toList = 0 := by decide
theorem n3 : valR (⟨#[48, 49, 50, 51]⟩ : ByteArray).data.toList = .returned (.tuple #[.int .i64 123, .int .i64 0]) := by
  rw [valR_num (by decide) (by decide)]; unfold numR; rw [n1, n2]
theorem n4 : digR 123 4 = .returned (.tuple #[.string ⟨#[48, 49, 50, 51]⟩, .int .i64 0]) := by
  rw [digR_ok (by decide), show textV 123 4 = [48, 49, 50, 51] by decide, show textE 123 4 = 0 by decide]
theorem n5 : restR [1, 0] 2 = .returned (.tuple #[.int .i64 56, .int .i64 0]) := by
  rw [restR_ok (p := 100) (by decide) (by decide) (by decide), show restD 100 [1, 0] = 56 by decide]; rfl
theorem n6 : powV 3 = 1000 := by decide
theorem n7 : widV 16 = 7 := by decide +kernel

set_option maxHeartbeats 1000000 in
theorem small09_any (w : World) : Calls Tryd.prog 12 #[] w fun e w' => e = .returned (.bool true) ∧ Below w.heap.size w w' := by
  go_enter Tryd.func12, Tryd.ntmps12
  go_wp2_with fail
  refine (Value_any _ _ (by decide)).mono ?_
  rw [n3]
  rintro e w1 ⟨rfl, rfl⟩
  go_wp2_with fail
  refine (Digits_any _ _ _ (by decide)).mono ?_
  rw [n4]
  rintro e w2 ⟨rfl, hb2⟩
  go_wp2_with fail
  refine (Rest_any _ _ _ (w2.heap.size + 1) [1, 0] _ _ (Reads.lit w2 _ _ (n := 2) rfl) (by simp) (Nat.le_refl _)).mono ?_
  rw [n5]
  rintro e w3 ⟨rfl, hb3⟩
  go_wp2_with fail
  refine (Power_any _ _).mono ?_
  rw [n6]
  rintro e w4 ⟨rfl, hb4⟩
  go_wp2_with fail
  refine (Width_any _ _).mono ?_
  rw [n7]
  rintro e w5 ⟨rfl, hb5⟩
  go_wp2_with fail
  go_ret
  exact ⟨rfl, thenB ((hb2.alloc hb2.size _)) (thenB hb3 (thenB hb4 hb5))⟩

theorem valR_form (l : List UInt8) : ∃ v e : Int, valR l = .returned (.tuple #[.int .i64 v, .int .i64 e]) := by
  unfold valR
  split
  · exact ⟨_, _, rfl⟩
  · split
    · exact ⟨_, _, rfl⟩
    · exact ⟨_, _, rfl⟩
set_option maxHeartbeats 2000000 in
theorem RadixNumerals_walk (s : ByteArray) (n k : Int) (w : World) (hs : s.size ≤ maxLen) (h1 : (Lit.int .i64 n).wf = true) (_h2 : (Lit.int .i64 k).wf = true) :
    Calls Tryd.prog 3 #[.string s, .int .i64 n, .int .i64 k] w fun e w' => e = .returned (.bool true) ∧ Below w.heap.size w w' := by
  have h63 : n ≤ 9223372036854775807 := by simp [Lit.wf] at h1; omega
  obtain ⟨v, e, hv⟩ := valR_form s.data.toList
  go_enter Tryd.func3, Tryd.ntmps3
  go_wp2_with fail
  refine (small09_any _).mono ?_
  rintro e w1 ⟨rfl, hb1⟩
  go_wp2_with fail
  refine (Value_any s _ hs).mono ?_
  rw [hv]
  rintro e w' ⟨rfl, rfl⟩
  go_wp2_with fail
  refine (rValue_any s _ hs).mono ?_
  rw [hv]
  rintro e w' ⟨rfl, rfl⟩
  go_wp2_with fail
  refine (Digits_any n k _ h63).mono ?_
  unfold digR
  rintro e w2 ⟨rfl, hb2⟩
  go_wp2_with fail
  refine (rDigits_any n k _ h63).mono ?_
  unfold digR
  rintro e w3 ⟨rfl, hb3⟩
  go_wp2_with fail
  refine (Power_any k _).mono ?_
  rintro e w4 ⟨rfl, hb4⟩
  go_wp2_with fail
  refine (rPower_any k _).mono ?_
  rintro e w' ⟨rfl, rfl⟩
  go_wp2_with fail
  refine (Width_any k _).mono ?_
  rintro e w5 ⟨rfl, hb5⟩
  go_wp2_with fail
  refine (rWidth_any k _).mono ?_
  rintro e w' ⟨rfl, rfl⟩
  go_wp2_with fail
  go_ret
  exact ⟨rfl, thenB hb1 (thenB hb2 (thenB hb3 (thenB hb4 hb5)))⟩
end Go.Proofs.YtiijjpjkfiookaaDoor
