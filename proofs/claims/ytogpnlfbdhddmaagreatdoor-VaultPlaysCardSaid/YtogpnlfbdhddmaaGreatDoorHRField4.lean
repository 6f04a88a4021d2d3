/- THE WALK of field's reference: Pow of 2. -/
import Derived.Test.YtogpnlfbdhddmaaGreatDoorHRField3
namespace Go.Proofs.YtogpnlfbdhddmaaGreatDoor
open Go.RowKit

set_option maxRecDepth 100000 in
set_option maxHeartbeats 4000000 in
theorem rPow_any (k : Nat) (w : World) (hk : k < 255) : Calls Tryz.prog 185 #[.int .u8 2, .int .i64 k] w fun e w' => e = .returned (.int .u8 ((rcG k).toNat : Int)) ∧ w = w' := by
  by_cases h0 : k = 0
  · subst h0
    go_enter Tryz.func185, Tryz.ntmps185
    go_wp2_with fail
    go_ret
    exact ⟨rfl, rfl⟩
  · have f1 : ¬ (k : Int) ≤ 0 := by omega
    have f2 : (k : Int).tmod 255 = k := by rw [Int.tmod_eq_emod_of_nonneg (by omega)]; omega
    go_enter Tryz.func185, Tryz.ntmps185
    go_wp2_with fail
    go_loop [5, 6] (fun p i => ∃ j : Nat, j ≤ k ∧ i = .int .i64 j ∧ p = .int .u8 ((rcG j).toNat : Int)) (fun _ i => k - (intOf i).toNat)
    case atStart => exact ⟨0, by omega, rfl, rfl⟩
    case round =>
      obtain ⟨j, hj, rfl, rfl⟩ := hrel
      by_cases hlt : j < k
      · have f3 : (j : Int) < k := by omega
        go_wp2_with fail
        refine (rMul2 (rcG j) _).mono ?_
        rintro e w1 ⟨rfl, rfl⟩
        go_wp2_with fail
        go_round
        case rel => exact ⟨j + 1, by omega, by go_num, rfl⟩
        case measure => simp [intOf]; omega
      · obtain rfl : j = k := by omega
        go_wp2_with fail
        go_ret
        exact ⟨rfl, rfl⟩
end Go.Proofs.YtogpnlfbdhddmaaGreatDoor
