/- THE WALKS of field's reference: left. -/
import Derived.Test.YtogpnlfbdhddmaaGreatDoorHRField
namespace Go.Proofs.YtogpnlfbdhddmaaGreatDoor
open Go.RowKit

/-- The bits set so far, i bits of a turned left by n. -/
def rlI (a n : Nat) : Nat → Nat
  | 0 => 0
  | i + 1 => if a / 2 ^ i % 2 = 1 then rlI a n i ||| 2 ^ ((i + n) % 8) else rlI a n i
theorem pow_8 (k : Nat) : 2 ^ (k % 8) < 256 := by
  have h := Nat.pow_le_pow_right (n := 2) (by decide) (show k % 8 ≤ 7 by omega)
  have e : 2 ^ 7 = 128 := by decide
  omega
theorem rlI_lt (a n : Nat) : ∀ i, rlI a n i < 256
  | 0 => (by decide : 0 < 256)
  | i + 1 => by
    have ih := rlI_lt a n i
    unfold rlI
    split
    · exact or_8 ih (pow_8 _)
    · exact ih
theorem rlI_yes {a n i : Nat} (h : a / 2 ^ i % 2 = 1) : rlI a n (i + 1) = rlI a n i ||| 2 ^ ((i + n) % 8) := if_pos h
theorem rlI_no {a n i : Nat} (h : ¬ a / 2 ^ i % 2 = 1) : rlI a n (i + 1) = rlI a n i := if_neg h
theorem rlI_1 : ∀ a, a < 256 → rlI a 1 8 = (rl1 (UInt8.ofNat a)).toNat := by decide +kernel
theorem rlI_2 : ∀ a, a < 256 → rlI a 2 8 = (rl1 (rl1 (UInt8.ofNat a))).toNat := by decide +kernel
theorem rlI_3 : ∀ a, a < 256 → rlI a 3 8 = (rl1 (rl1 (rl1 (UInt8.ofNat a)))).toNat := by decide +kernel
theorem rlI_4 : ∀ a, a < 256 → rlI a 4 8 = (rl1 (rl1 (rl1 (rl1 (UInt8.ofNat a))))).toNat := by decide +kernel
theorem one_wrap (k : Nat) : wrap64 (2 ^ (k % 8) : Int) = ((2 ^ (k % 8) : Nat) : Int) := by
  have h := pow_8 k
  have e : (2 : Int) ^ (k % 8) = ((2 ^ (k % 8) : Nat) : Int) := by simp
  rw [e]
  generalize 2 ^ (k % 8) = y at h
  unfold wrap64; omega
set_option maxRecDepth 100000 in
set_option maxHeartbeats 4000000 in
theorem rleft_any (a n : Nat) (w : World) (ha : a < 256) (hn : n ≤ 8) : Calls Tryz.prog 183 #[.int .u8 a, .int .i64 n] w fun e w' => e = .returned (.int .u8 (rlI a n 8 : Nat)) ∧ w = w' := by
  go_enter Tryz.func183, Tryz.ntmps183
  go_wp2_with fail
  go_loop [5, 6] (fun p i => ∃ j : Nat, j ≤ 8 ∧ i = .int .i64 j ∧ p = .int .i64 (rlI a n j : Nat)) (fun _ i => 8 - (intOf i).toNat)
  case atStart => exact ⟨0, by omega, rfl, rfl⟩
  case round =>
    obtain ⟨j, hj, rfl, rfl⟩ := hrel
    have hp := rlI_lt a n j
    by_cases hlt : j < 8
    · have h0 : (0 : Int) ≤ (j : Int) := by omega
      have h1 : ((j : Int) + n).tmod 8 = ((j + n) % 8 : Nat) := by rw [Int.tmod_eq_emod_of_nonneg (by omega)]; omega
      have h2 : (0 : Int) ≤ (((j + n) % 8 : Nat) : Int) := by omega
      go_wp2_with fail
      · rename_i hbit
        refine ⟨⟨j + 1, by omega, by simp, ?_⟩, by simp [intOf]; omega⟩
        rw [rlI_yes (bitOf.1 hbit), one_wrap, bx64_or hp (pow_8 _)]
      · rename_i hbit
        refine ⟨⟨j + 1, by omega, by simp, ?_⟩, by simp [intOf]; omega⟩
        rw [rlI_no (bitNo hbit)]
    · obtain rfl : j = 8 := by omega
      go_wp2_with fail
      go_ret
      exact ⟨rfl, rfl⟩
end Go.Proofs.YtogpnlfbdhddmaaGreatDoor
