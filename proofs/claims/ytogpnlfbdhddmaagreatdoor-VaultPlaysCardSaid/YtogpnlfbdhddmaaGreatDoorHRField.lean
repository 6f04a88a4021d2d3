/- THE WALKS of field's reference: Mul, left, Pow of 2. -/
import Derived.Test.YtogpnlfbdhddmaaGreatDoorGAes
namespace Go.Proofs.YtogpnlfbdhddmaaGreatDoor
open Go.RowKit

theorem xor_15 {a b : Nat} (ha : a < 32768) (hb : b < 32768) : a ^^^ b < 32768 := Nat.xor_lt_two_pow (n := 15) ha hb
theorem or_8 {a b : Nat} (ha : a < 256) (hb : b < 256) : a ||| b < 256 := Nat.or_lt_two_pow (n := 8) ha hb
theorem bx64_of (a : Nat) (ha : a < 32768) : (BitVec.ofInt 64 (a : Int)).toNat = a := by
  rw [BitVec.ofInt_natCast, BitVec.toNat_ofNat]; exact Nat.mod_eq_of_lt (by omega)
theorem bx64_xor {a b : Nat} (ha : a < 32768) (hb : b < 32768) : bits .xor .i64 (a : Int) (b : Int) = ((a ^^^ b : Nat) : Int) := by
  have hx := xor_15 ha hb
  show IntKind.i64.wrap ((BitVec.ofInt 64 (a : Int) ^^^ BitVec.ofInt 64 (b : Int)).toNat : Int) = _
  rw [BitVec.toNat_xor, bx64_of a ha, bx64_of b hb]
  exact IntWalk.i64_in _ (by omega)
theorem bx64_or {a b : Nat} (ha : a < 256) (hb : b < 256) : bits .or .i64 (a : Int) (b : Int) = ((a ||| b : Nat) : Int) := by
  have hx := or_8 ha hb
  show IntKind.i64.wrap ((BitVec.ofInt 64 (a : Int) ||| BitVec.ofInt 64 (b : Int)).toNat : Int) = _
  rw [BitVec.toNat_or, bx64_of a (by omega), bx64_of b (by omega)]
  exact IntWalk.i64_in _ (by omega)
theorem cast_shr2 {x k : Nat} : (x : Int) / 2 ^ k = ((x / 2 ^ k : Nat) : Int) := by simp
/-- The product of polynomials, i bits of the second. -/
def rm1 (a b : Nat) : Nat → Nat
  | 0 => 0
  | i + 1 => if b / 2 ^ i % 2 = 1 then rm1 a b i ^^^ (a * 2 ^ i) else rm1 a b i
/-- The rest, j places from the top. -/
def rm2 (p : Nat) : Nat → Nat
  | 0 => p
  | j + 1 => if rm2 p j / 2 ^ (14 - j) % 2 = 1 then rm2 p j ^^^ (283 * 2 ^ (6 - j)) else rm2 p j
def rMulN (a b : Nat) : Nat := rm2 (rm1 a b 8) 7 % 256
theorem rm1_lt (a b : Nat) (ha : a < 256) : ∀ i, i ≤ 8 → rm1 a b i < 32768
  | 0, _ => (by decide : 0 < 32768)
  | i + 1, hi => by
    have ih := rm1_lt a b ha i (by omega)
    unfold rm1
    split
    · refine xor_15 ih ?_
      have h1 : 2 ^ i ≤ 2 ^ 7 := Nat.pow_le_pow_right (by decide) (by omega)
      calc a * 2 ^ i ≤ 255 * 2 ^ 7 := Nat.mul_le_mul (by omega) h1
        _ < 32768 := by decide
    · exact ih
theorem rm2_lt (p : Nat) (hp : p < 32768) : ∀ j, j ≤ 7 → rm2 p j < 32768
  | 0, _ => hp
  | j + 1, hj => by
    have ih := rm2_lt p hp j (by omega)
    unfold rm2
    split
    · refine xor_15 ih ?_
      have h1 : 2 ^ (6 - j) ≤ 2 ^ 6 := Nat.pow_le_pow_right (by decide) (by omega)
      calc 283 * 2 ^ (6 - j) ≤ 283 * 2 ^ 6 := Nat.mul_le_mul (Nat.le_refl _) h1
        _ < 32768 := by decide
    · exact ih
theorem rm1_yes {a b i : Nat} (h : b / 2 ^ i % 2 = 1) : rm1 a b (i + 1) = rm1 a b i ^^^ (a * 2 ^ i) := if_pos h
theorem rm1_no {a b i : Nat} (h : ¬ b / 2 ^ i % 2 = 1) : rm1 a b (i + 1) = rm1 a b i := if_neg h
theorem rm2_yes {p j : Nat} (h : rm2 p j / 2 ^ (14 - j) % 2 = 1) : rm2 p (j + 1) = rm2 p j ^^^ (283 * 2 ^ (6 - j)) := if_pos h
theorem rm2_no {p j : Nat} (h : ¬ rm2 p j / 2 ^ (14 - j) % 2 = 1) : rm2 p (j + 1) = rm2 p j := if_neg h
theorem rMul_2 : ∀ a, a < 256 → rMulN a 2 = (mulG (UInt8.ofNat a) 2).toNat := by decide +kernel
theorem rMul_3 : ∀ a, a < 256 → rMulN a 3 = (mulG (UInt8.ofNat a) 3).toNat := by decide +kernel
theorem rMul_246 : ∀ a, a < 256 → rMulN a 246 = (mulG (UInt8.ofNat a) 246).toNat := by decide +kernel
theorem bitOf {x k : Nat} : (((x : Int) / 2 ^ k).tmod 2 == 1) = true ↔ x / 2 ^ k % 2 = 1 := by
  rw [cast_shr2, Int.tmod_eq_emod_of_nonneg (Int.natCast_nonneg _), beq_iff_eq]
  generalize x / 2 ^ k = y
  omega
theorem bitNo {x k : Nat} (h : (((x : Int) / 2 ^ k).tmod 2 == 1) = false) : ¬ x / 2 ^ k % 2 = 1 := by
  intro c
  rw [bitOf.2 c] at h
  exact absurd h (by decide)
theorem shl_wrap {a j : Nat} (h : a * 2 ^ j < 32768) : wrap64 ((a : Int) * 2 ^ j) = ((a * 2 ^ j : Nat) : Int) := by
  have e : (a : Int) * 2 ^ j = ((a * 2 ^ j : Nat) : Int) := by simp
  rw [e]; unfold wrap64; omega
theorem mul_lt15 {a j : Nat} (ha : a < 256) (hj : j < 8) : a * 2 ^ j < 32768 := by
  have h1 : 2 ^ j ≤ 2 ^ 7 := Nat.pow_le_pow_right (by decide) (by omega)
  calc a * 2 ^ j ≤ 255 * 2 ^ 7 := Nat.mul_le_mul (by omega) h1
    _ < 32768 := by decide
theorem mul_lt15b {j : Nat} (hj : j ≤ 6) : 283 * 2 ^ j < 32768 := by
  have h1 : 2 ^ j ≤ 2 ^ 6 := Nat.pow_le_pow_right (by decide) hj
  calc 283 * 2 ^ j ≤ 283 * 2 ^ 6 := Nat.mul_le_mul (Nat.le_refl _) h1
    _ < 32768 := by decide
set_option maxRecDepth 100000 in
set_option maxHeartbeats 4000000 in
theorem rMul_any (a b : Nat) (w : World) (ha : a < 256) (hb : b < 256) : Calls Tryz.prog 184 #[.int .u8 a, .int .u8 b] w fun e w' => e = .returned (.int .u8 (rMulN a b : Nat)) ∧ w = w' := by
  go_enter Tryz.func184, Tryz.ntmps184
  go_wp2_with fail
  go_loop [5, 6] (fun p i => ∃ j : Nat, j ≤ 8 ∧ i = .int .i64 j ∧ p = .int .i64 (rm1 a b j : Nat)) (fun _ i => 8 - (intOf i).toNat)
  case atStart => exact ⟨0, by omega, rfl, rfl⟩
  case round =>
    obtain ⟨j, hj, rfl, rfl⟩ := hrel
    by_cases hlt : j < 8
    · have hp := rm1_lt a b ha j hj
      have h0 : (0 : Int) ≤ (j : Int) := by omega
      go_wp2_with fail
      · rename_i hbit
        refine ⟨⟨j + 1, by omega, by simp, ?_⟩, by simp [intOf]; omega⟩
        rw [rm1_yes (bitOf.1 hbit), shl_wrap (mul_lt15 ha hlt), bx64_xor hp (mul_lt15 ha hlt)]
      · rename_i hbit
        refine ⟨⟨j + 1, by omega, by simp, ?_⟩, by simp [intOf]; omega⟩
        rw [rm1_no (bitNo hbit)]
    · obtain rfl : j = 8 := by omega
      have hp8 := rm1_lt a b ha 8 (by omega)
      go_wp2_with fail
      go_loop [5, 7] (fun p i => ∃ j : Nat, j ≤ 7 ∧ i = .int .i64 ((14 - j : Nat) : Int) ∧ p = .int .i64 (rm2 (rm1 a b 8) j : Nat)) (fun _ i => (intOf i).toNat)
      case atStart => exact ⟨0, by omega, rfl, rfl⟩
      case round =>
        obtain ⟨j, hj, rfl, rfl⟩ := hrel
        have hp := rm2_lt _ hp8 j hj
        by_cases hlt : j < 7
        · have h0 : (0 : Int) ≤ ((14 - j : Nat) : Int) := by omega
          have h1 : (0 : Int) ≤ ((14 - j : Nat) : Int) - 8 := by omega
          have h2 : (8 : Int) ≤ ((14 - j : Nat) : Int) := by omega
          have hq := mul_lt15b (j := 6 - j) (by omega)
          go_wp2_with fail
          all_goals have e14 : 14 - j - 8 = 6 - j := by omega
          all_goals have e2 : ((14 - j : Nat) : Int) - 1 = ((14 - (j + 1) : Nat) : Int) := by omega
          all_goals have e3 : 14 - (j + 1) < 14 - j := by omega
          · rename_i hbit
            refine ⟨⟨j + 1, by omega, by rw [e2], ?_⟩, by rw [e2]; simp only [intOf, Int.toNat_natCast]; exact e3⟩
            have e5 : (283 : Int) * 2 ^ (6 - j) = ((283 : Nat) : Int) * 2 ^ (6 - j) := rfl
            rw [rm2_yes (bitOf.1 hbit), e14, e5, shl_wrap hq, bx64_xor hp hq]
          · rename_i hbit
            refine ⟨⟨j + 1, by omega, by rw [e2], ?_⟩, by rw [e2]; simp only [intOf, Int.toNat_natCast]; exact e3⟩
            rw [rm2_no (bitNo hbit)]
        · obtain rfl : j = 7 := by omega
          go_wp2_with fail
          go_ret
          exact ⟨by simp [rMulN], rfl⟩
end Go.Proofs.YtogpnlfbdhddmaaGreatDoor
