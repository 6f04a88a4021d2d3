/- THE WALKS of field's reference: Mul, left, Pow of 2. THE WALKS of field's reference: left. THE WALK of field's reference: Boxes. THE WALK of field's reference: Pow of 2. THE WALK of the reference of aes: lay. THE WALK of the reference of aes: swap under its map. THE WALK of the reference of aes: times 1, 2, 3. THE WALK of the reference of aes: shift by 1. PLAIN: the columns mixed as the reference does it. THE WALK of the reference of aes: mix by 2, 3, 1, 1. The reference's round keys: words of a key in plain Lean; rows of rows of bytes in memory. -/
import Derived.Test.YtiijjpjkfiookaaGreatDoorGAes
import Derived.Deep.QuietTactic
import Derived.BigQuiet
import Derived.IntWalk
namespace Go.Proofs.YtiijjpjkfiookaaGreatDoor
open Go.RowKit

theorem xor_15 {a b : Nat} (ha : a < 32768) (hb : b < 32768) : a ^^^ b < 32768 := Nat.xor_lt_two_pow (n := 15) ha hb
theorem or_8 {a b : Nat} (ha : a < 256) (hb : b < 256) : a ||| b < 256 := Nat.or_lt_two_pow (n := 8) ha hb
theorem bx64_of (a : Nat) (ha : a < 32768) : (BitVec.ofInt 64 (a : Int)).toNat = a := by
  rw [BitVec.ofInt_natCast, BitVec.toNat_ofNat]; exact Nat.mod_eq_of_lt (by omega)
theorem bx64_xor {a b : Nat} (ha : a < 32768) (hb : b < 32768) : bits .xor .i64 (a : Int) (b : Int) = ((a ^^^ b : Nat) : Int) := by
  have hx := xor_15 ha hb
  show IntKind.i64.wrap ((BitVec.ofInt 64 (a : Int) ^^^ BitVec.ofInt 64 (b : Int)).toNat : Int) = _
  rw [BitVec.toNat_xor, bx64_of a ha, bx64_of b hb]
  exact IntWalk.i64_in _ (by omega)
theorem bx64_or {a b : Nat} (ha : a < 256) (hb : b < 256) : bits .or .i64 (a : Int) (b : Int) = ((a ||| b : Nat) : Int) := by
  have hx := or_8 ha hb
  show IntKind.i64.wrap ((BitVec.ofInt 64 (a : Int) ||| BitVec.ofInt 64 (b : Int)).toNat : Int) = _
  rw [BitVec.toNat_or, bx64_of a (by omega), bx64_of b (by omega)]
  exact IntWalk.i64_in _ (by omega)
theorem cast_shr2 {x k : Nat} : (x : Int) / 2 ^ k = ((x / 2 ^ k : Nat) : Int) := by simp
/-- The product of polynomials, i bits of the second. -/
def rm1 (a b : Nat) : Nat → Nat
  | 0 => 0
  | i + 1 => if b / 2 ^ i % 2 = 1 then rm1 a b i ^^^ (a * 2 ^ i) else rm1 a b i
/-- The rest, j places from the top. -/
def rm2 (p : Nat) : Nat → Nat
  | 0 => p
  | j + 1 => if rm2 p j / 2 ^ (14 - j) % 2 = 1 then rm2 p j ^^^ (283 * 2 ^ (6 - j)) else rm2 p j
def rMulN (a b : Nat) : Nat := rm2 (rm1 a b 8) 7 % 256
theorem rm1_lt (a b : Nat) (ha : a < 256) : ∀ i, i ≤ 8 → rm1 a b i < 32768
  | 0, _ => (by decide : 0 < 32768)
  | i + 1, hi => by
    have ih := rm1_lt a b ha i (by omega)
    unfold rm1
    split
    · refine xor_15 ih ?_
      have h1 : 2 ^ i ≤ 2 ^ 7 := Nat.pow_le_pow_right (by decide) (by omega)
      calc a * 2 ^ i ≤ 255 * 2 ^ 7 := Nat.mul_le_mul (by omega) h1
        _ < 32768 := by decide
    · exact ih
theorem rm2_lt (p : Nat) (hp : p < 32768) : ∀ j, j ≤ 7 → rm2 p j < 32768
  | 0, _ => hp
  | j + 1, hj => by
    have ih := rm2_lt p hp j (by omega)
    unfold rm2
    split
    · refine xor_15 ih ?_
      have h1 : 2 ^ (6 - j) ≤ 2 ^ 6 := Nat.pow_le_pow_right (by decide) (by omega)
      calc 283 * 2 ^ (6 - j) ≤ 283 * 2 ^ 6 := Nat.mul_le_mul (Nat.le_refl _) h1
        _ < 32768 := by decide
    · exact ih
theorem rm1_yes {a b i : Nat} (h : b / 2 ^ i % 2 = 1) : rm1 a b (i + 1) = rm1 a b i ^^^ (a * 2 ^ i) := if_pos h
theorem rm1_no {a b i : Nat} (h : ¬ b / 2 ^ i % 2 = 1) : rm1 a b (i + 1) = rm1 a b i := if_neg h
theorem rm2_yes {p j : Nat} (h : rm2 p j / 2 ^ (14 - j) % 2 = 1) : rm2 p (j + 1) = rm2 p j ^^^ (283 * 2 ^ (6 - j)) := if_pos h
theorem rm2_no {p j : Nat} (h : ¬ rm2 p j / 2 ^ (14 - j) % 2 = 1) : rm2 p (j + 1) = rm2 p j := if_neg h
theorem rMul_2 : ∀ a, a < 256 → rMulN a 2 = (mulG (UInt8.ofNat a) 2).toNat := by decide +kernel
theorem rMul_3 : ∀ a, a < 256 → rMulN a 3 = (mulG (UInt8.ofNat a) 3).toNat := by decide +kernel
theorem rMul_246 : ∀ a, a < 256 → rMulN a 246 = (mulG (UInt8.ofNat a) 246).toNat := by decide +kernel
theorem bitOf {x k : Nat} : (((x : Int) / 2 ^ k).tmod 2 == 1) = true ↔ x / 2 ^ k % 2 = 1 := by
  rw [cast_shr2, Int.tmod_eq_emod_of_nonneg (Int.natCast_nonneg _), beq_iff_eq]
  generalize x / 2 ^ k = y
  omega
theorem bitNo {x k : Nat} (h : (((x : Int) / 2 ^ k).tmod 2 == 1) = false) : ¬ x / 2 ^ k % 2 = 1 := by
  intro c
  rw [bitOf.2 c] at h
  exact absurd h (by decide)
theorem shl_wrap {a j : Nat} (h : a * 2 ^ j < 32768) : wrap64 ((a : Int) * 2 ^ j) = ((a * 2 ^ j : Nat) : Int) := by
  have e : (a : Int) * 2 ^ j = ((a * 2 ^ j : Nat) : Int) := by simp
  rw [e]; unfold wrap64; omega
theorem mul_lt15 {a j : Nat} (ha : a < 256) (hj : j < 8) : a * 2 ^ j < 32768 := by
  have h1 : 2 ^ j ≤ 2 ^ 7 := Nat.pow_le_pow_right (by decide) (by omega)
  calc a * 2 ^ j ≤ 255 * 2 ^ 7 := Nat.mul_le_mul (by omega) h1
    _ < 32768 := by decide
theorem mul_lt15b {j : Nat} (hj : j ≤ 6) : 283 * 2 ^ j < 32768 := by
  have h1 : 2 ^ j ≤ 2 ^ 6 := Nat.pow_le_pow_right (by decide) hj
  calc 283 * 2 ^ j ≤ 283 * 2 ^ 6 := Nat.mul_le_mul (Nat.le_refl _) h1
    _ < 32768 := by decide
set_option maxRecDepth 100000 in
set_option maxHeartbeats 4000000 in
theorem rMul_any (a b : Nat) (w : World) (ha : a < 256) (hb : b < 256) : Calls Tryz.prog 56 #[.int .u8 a, .int .u8 b] w fun e w' => e = .returned (.int .u8 (rMulN a b : Nat)) ∧ w = w' := by
  go_enter Tryz.func56, Tryz.ntmps56
  go_wp2_with fail
  go_loop [5, 6] (fun p i => ∃ j : Nat, j ≤ 8 ∧ i = .int .i64 j ∧ p = .int .i64 (rm1 a b j : Nat)) (fun _ i => 8 - (intOf i).toNat)
  case atStart => exact ⟨0, by omega, rfl, rfl⟩
  case round =>
    obtain ⟨j, hj, rfl, rfl⟩ := hrel
    by_cases hlt : j < 8
    · have hp := rm1_lt a b ha j hj
      have h0 : (0 : Int) ≤ (j : Int) := by omega
      go_wp2_with fail
      · rename_i hbit
        refine ⟨⟨j + 1, by omega, by simp, ?_⟩, by simp [intOf]; omega⟩
        rw [rm1_yes (bitOf.1 hbit), shl_wrap (mul_lt15 ha hlt), bx64_xor hp (mul_lt15 ha hlt)]
      · rename_i hbit
        refine ⟨⟨j + 1, by omega, by simp, ?_⟩, by simp [intOf]; omega⟩
        rw [rm1_no (bitNo hbit)]
    · obtain rfl : j = 8 := by omega
      have hp8 := rm1_lt a b ha 8 (by omega)
      go_wp2_with fail
      go_loop [5, 7] (fun p i => ∃ j : Nat, j ≤ 7 ∧ i = .int .i64 ((14 - j : Nat) : Int) ∧ p = .int .i64 (rm2 (rm1 a b 8) j : Nat)) (fun _ i => (intOf i).toNat)
      case atStart => exact ⟨0, by omega, rfl, rfl⟩
      case round =>
        obtain ⟨j, hj, rfl, rfl⟩ := hrel
        have hp := rm2_lt _ hp8 j hj
        by_cases hlt : j < 7
        · have h0 : (0 : Int) ≤ ((14 - j : Nat) : Int) := by omega
          have h1 : (0 : Int) ≤ ((14 - j : Nat) : Int) - 8 := by omega
          have h2 : (8 : Int) ≤ ((14 - j : Nat) : Int) := by omega
          have hq := mul_lt15b (j := 6 - j) (by omega)
          go_wp2_with fail
          all_goals have e14 : 14 - j - 8 = 6 - j := by omega
          all_goals have e2 : ((14 - j : Nat) : Int) - 1 = ((14 - (j + 1) : Nat) : Int) := by omega
          all_goals have e3 : 14 - (j + 1) < 14 - j := by omega
          · rename_i hbit
            refine ⟨⟨j + 1, by omega, by rw [e2], ?_⟩, by rw [e2]; simp only [intOf, Int.toNat_natCast]; exact e3⟩
            have e5 : (283 : Int) * 2 ^ (6 - j) = ((283 : Nat) : Int) * 2 ^ (6 - j) := rfl
            rw [rm2_yes (bitOf.1 hbit), e14, e5, shl_wrap hq, bx64_xor hp hq]
          · rename_i hbit
            refine ⟨⟨j + 1, by omega, by rw [e2], ?_⟩, by rw [e2]; simp only [intOf, Int.toNat_natCast]; exact e3⟩
            rw [rm2_no (bitNo hbit)]
        · obtain rfl : j = 7 := by omega
          go_wp2_with fail
          go_ret
          exact ⟨by simp [rMulN], rfl⟩
end Go.Proofs.YtiijjpjkfiookaaGreatDoor
namespace Go.Proofs.YtiijjpjkfiookaaGreatDoor
open Go.RowKit

/-- The bits set so far, i bits of a turned left by n. -/
def rlI (a n : Nat) : Nat → Nat
  | 0 => 0
  | i + 1 => if a / 2 ^ i % 2 = 1 then rlI a n i ||| 2 ^ ((i + n) % 8) else rlI a n i
theorem pow_8 (k : Nat) : 2 ^ (k % 8) < 256 := by
  have h := Nat.pow_le_pow_right (n := 2) (by decide) (show k % 8 ≤ 7 by omega)
  have e : 2 ^ 7 = 128 := by decide
  omega
theorem rlI_lt (a n : Nat) : ∀ i, rlI a n i < 256
  | 0 => (by decide : 0 < 256)
  | i + 1 => by
    have ih := rlI_lt a n i
    unfold rlI
    split
    · exact or_8 ih (pow_8 _)
    · exact ih
theorem rlI_yes {a n i : Nat} (h : a / 2 ^ i % 2 = 1) : rlI a n (i + 1) = rlI a n i ||| 2 ^ ((i + n) % 8) := if_pos h
theorem rlI_no {a n i : Nat} (h : ¬ a / 2 ^ i % 2 = 1) : rlI a n (i + 1) = rlI a n i := if_neg h
theorem rlI_1 : ∀ a, a < 256 → rlI a 1 8 = (rl1 (UInt8.ofNat a)).toNat := by decide +kernel
theorem rlI_2 : ∀ a, a < 256 → rlI a 2 8 = (rl1 (rl1 (UInt8.ofNat a))).toNat := by decide +kernel
theorem rlI_3 : ∀ a, a < 256 → rlI a 3 8 = (rl1 (rl1 (rl1 (UInt8.ofNat a)))).toNat := by decide +kernel
theorem rlI_4 : ∀ a, a < 256 → rlI a 4 8 = (rl1 (rl1 (rl1 (rl1 (UInt8.ofNat a))))).toNat := by decide +kernel
theorem one_wrap (k : Nat) : wrap64 (2 ^ (k % 8) : Int) = ((2 ^ (k % 8) : Nat) : Int) := by
  have h := pow_8 k
  have e : (2 : Int) ^ (k % 8) = ((2 ^ (k % 8) : Nat) : Int) := by simp
  rw [e]
  generalize 2 ^ (k % 8) = y at h
  unfold wrap64; omega
set_option maxRecDepth 100000 in
set_option maxHeartbeats 4000000 in
theorem rleft_any (a n : Nat) (w : World) (ha : a < 256) (hn : n ≤ 8) : Calls Tryz.prog 55 #[.int .u8 a, .int .i64 n] w fun e w' => e = .returned (.int .u8 (rlI a n 8 : Nat)) ∧ w = w' := by
  go_enter Tryz.func55, Tryz.ntmps55
  go_wp2_with fail
  go_loop [5, 6] (fun p i => ∃ j : Nat, j ≤ 8 ∧ i = .int .i64 j ∧ p = .int .i64 (rlI a n j : Nat)) (fun _ i => 8 - (intOf i).toNat)
  case atStart => exact ⟨0, by omega, rfl, rfl⟩
  case round =>
    obtain ⟨j, hj, rfl, rfl⟩ := hrel
    have hp := rlI_lt a n j
    by_cases hlt : j < 8
    · have h0 : (0 : Int) ≤ (j : Int) := by omega
      have h1 : ((j : Int) + n).tmod 8 = ((j + n) % 8 : Nat) := by rw [Int.tmod_eq_emod_of_nonneg (by omega)]; omega
      have h2 : (0 : Int) ≤ (((j + n) % 8 : Nat) : Int) := by omega
      go_wp2_with fail
      · rename_i hbit
        refine ⟨⟨j + 1, by omega, by simp, ?_⟩, by simp [intOf]; omega⟩
        rw [rlI_yes (bitOf.1 hbit), one_wrap, bx64_or hp (pow_8 _)]
      · rename_i hbit
        refine ⟨⟨j + 1, by omega, by simp, ?_⟩, by simp [intOf]; omega⟩
        rw [rlI_no (bitNo hbit)]
    · obtain rfl : j = 8 := by omega
      go_wp2_with fail
      go_ret
      exact ⟨rfl, rfl⟩
end Go.Proofs.YtiijjpjkfiookaaGreatDoor
namespace Go.Proofs.YtiijjpjkfiookaaGreatDoor
open Go.RowKit

theorem row_set0 {w : World} {base g n cap : Nat} {l : List UInt8} (h : Row w base 1 (some ⟨g, 0, none⟩) n cap (bv l)) {j : Nat} (hj : j < n) {c : UInt8} {z : Int} (hz : z = (c.toNat : Int)) :
    Row (w.setCell ⟨g, j, none⟩ (.int .u8 z)) base 1 (some ⟨g, 0, none⟩) n cap (bv (l.set j c)) := by
  have h2 := h.set (j := j) (by have := h.2.1; omega) (.int .u8 (c.toNat : Int))
  rw [Nat.zero_add] at h2
  rw [bv_set, hz]
  exact h2
theorem row_byte0 {w : World} {base g n cap : Nat} {l : List UInt8} (h : Row w base 1 (some ⟨g, 0, none⟩) n cap (bv l)) {j : Nat} (hj : j < l.length) : w.cell? ⟨g, j, none⟩ = some (.int .u8 (l[j].toNat : Int)) := by
  have := h.cell (bv_at l j hj)
  rwa [Nat.zero_add] at this
theorem row_free0 {w : World} {base g n cap : Nat} {l : List Value} (h : Row w base 1 (some ⟨g, 0, none⟩) n cap l) {j : Nat} (hj : j < n) : w.frozen? ⟨g, j, none⟩ = false := by
  have := h.free (j := j) (by have := h.2.1; omega)
  rwa [Nat.zero_add] at this
theorem rMul3 (x : UInt8) (w : World) : Calls Tryz.prog 56 #[.int .u8 (x.toNat : Int), .int .u8 3] w fun e w' => e = .returned (.int .u8 ((mulG x 3).toNat : Int)) ∧ w = w' := by
  have h := rMul_any x.toNat 3 w x.toNat_lt (by decide)
  rwa [rMul_3 _ x.toNat_lt, UInt8.ofNat_toNat] at h
theorem rMul2 (x : UInt8) (w : World) : Calls Tryz.prog 56 #[.int .u8 (x.toNat : Int), .int .u8 2] w fun e w' => e = .returned (.int .u8 ((mulG x 2).toNat : Int)) ∧ w = w' := by
  have h := rMul_any x.toNat 2 w x.toNat_lt (by decide)
  rwa [rMul_2 _ x.toNat_lt, UInt8.ofNat_toNat] at h
theorem rMul246 (x : UInt8) (w : World) : Calls Tryz.prog 56 #[.int .u8 (x.toNat : Int), .int .u8 246] w fun e w' => e = .returned (.int .u8 ((mulG x 246).toNat : Int)) ∧ w = w' := by
  have h := rMul_any x.toNat 246 w x.toNat_lt (by decide)
  rwa [rMul_246 _ x.toNat_lt, UInt8.ofNat_toNat] at h
theorem rleft1 (x : UInt8) (w : World) : Calls Tryz.prog 55 #[.int .u8 (x.toNat : Int), .int .i64 1] w fun e w' => e = .returned (.int .u8 ((rl1 x).toNat : Int)) ∧ w = w' := by
  have h := rleft_any x.toNat 1 w x.toNat_lt (by decide)
  rwa [rlI_1 _ x.toNat_lt, UInt8.ofNat_toNat] at h
theorem rleft2 (x : UInt8) (w : World) : Calls Tryz.prog 55 #[.int .u8 (x.toNat : Int), .int .i64 2] w fun e w' => e = .returned (.int .u8 ((rl1 (rl1 x)).toNat : Int)) ∧ w = w' := by
  have h := rleft_any x.toNat 2 w x.toNat_lt (by decide)
  rwa [rlI_2 _ x.toNat_lt, UInt8.ofNat_toNat] at h
theorem rleft3 (x : UInt8) (w : World) : Calls Tryz.prog 55 #[.int .u8 (x.toNat : Int), .int .i64 3] w fun e w' => e = .returned (.int .u8 ((rl1 (rl1 (rl1 x))).toNat : Int)) ∧ w = w' := by
  have h := rleft_any x.toNat 3 w x.toNat_lt (by decide)
  rwa [rlI_3 _ x.toNat_lt, UInt8.ofNat_toNat] at h
theorem rleft4 (x : UInt8) (w : World) : Calls Tryz.prog 55 #[.int .u8 (x.toNat : Int), .int .i64 4] w fun e w' => e = .returned (.int .u8 ((rl1 (rl1 (rl1 (rl1 x)))).toNat : Int)) ∧ w = w' := by
  have h := rleft_any x.toNat 4 w x.toNat_lt (by decide)
  rwa [rlI_4 _ x.toNat_lt, UInt8.ofNat_toNat] at h
/-- The reference's map of a byte whose inverse is k. -/
def raff (k : UInt8) : UInt8 := k ^^^ rl1 k ^^^ rl1 (rl1 k) ^^^ rl1 (rl1 (rl1 k)) ^^^ rl1 (rl1 (rl1 (rl1 k))) ^^^ 99
/-- Powers of three and of its inverse. -/
def bxX : Nat → UInt8
  | 0 => 1
  | j + 1 => mulG (bxX j) 3
def bxK : Nat → UInt8
  | 0 => 1
  | j + 1 => mulG (bxK j) 246
def bxL : Nat → List UInt8
  | 0 => 99 :: zeros' 255
  | j + 1 => (bxL j).set (bxX j).toNat (raff (bxK j))
theorem length_bxL : ∀ j, (bxL j).length = 256
  | 0 => by show (99 :: zeros' 255).length = 256; rw [List.length_cons]; unfold zeros'; rw [List.length_replicate]
  | j + 1 => by simp [bxL, length_bxL j]
/-- All three at once. -/
def bxGo : Nat → UInt8 → UInt8 → List UInt8 → List UInt8
  | 0, _, _, l => l
  | n + 1, x, k, l => bxGo n (mulG x 3) (mulG k 246) (l.set x.toNat (raff k))
theorem bxGo_at : ∀ n j, bxGo n (bxX j) (bxK j) (bxL j) = bxL (j + n)
  | 0, _ => rfl
  | n + 1, j => by
    rw [show j + (n + 1) = (j + 1) + n by omega, ← bxGo_at n (j + 1)]
    rfl
set_option maxRecDepth 100000 in
theorem bxGo_sb : bxGo 255 1 1 (99 :: zeros' 255) = sbL := by decide +kernel
theorem bxL_sb : bxL 255 = sbL := by
  have h := bxGo_at 255 0
  rw [Nat.zero_add] at h
  rw [← h]
  exact bxGo_sb
theorem make256 (w : World) : (Instr.makeSlice 22 (.int .i64 256) (.int .i64 256)).run Tryz.prog w = .ok (.slice (some ⟨w.heap.size, 0, none⟩) 256 256) (w.alloc (.cells (bv (zeros' 256)).toArray 5)) := by kernel_rfl
/-- Behind i bytes. -/
def BxRel (w : World) (x k i : Value) (wr : World) : Prop :=
  ∃ j : Nat, j ≤ 255 ∧ i = .int .i64 j ∧ x = .int .u8 ((bxX j).toNat : Int) ∧ k = .int .u8 ((bxK j).toNat : Int) ∧ Row wr w.heap.size 1 (some ⟨w.heap.size, 0, none⟩) 256 256 (bv (bxL j)) ∧ Below w.heap.size w wr
theorem BxRel.drew {w wr : World} {x k i : Value} (h : BxRel w x k i wr) : BxRel w x k i wr.drew := by
  obtain ⟨j, h1, h2, h3, h4, h5, h6⟩ := h
  exact ⟨j, h1, h2, h3, h4, h5.below (B := wr.heap.size) (Below.refl _ _).drew (Nat.le_refl _), h6.drew⟩
set_option maxRecDepth 100000 in
set_option maxHeartbeats 4000000 in
theorem rBoxes_any (w : World) : Calls Tryz.prog 36 #[] w fun e w' => ∃ A c, e = .returned (.slice A 256 c) ∧ Row w' w.heap.size 1 A 256 c (bv sbL) ∧ Below w.heap.size w w' := by
  have hmk := make256
  have hr0 : Row (w.alloc (.cells (bv (99 :: zeros' 255)).toArray 5)) w.heap.size 1 (some ⟨w.heap.size, 0, none⟩) 256 256 (bv (99 :: zeros' 255)) := Row.lit w (bv (99 :: zeros' 255)).toArray 5 (by rw [List.size_toArray, length_bv]; rfl) (Nat.le_refl _) (by decide)
  have HSET := Lib.hid (show (bv (zeros' 256)).set 0 (.int .u8 99) = bv (99 :: zeros' 255) by kernel_rfl)
  have hz2 : (bv (zeros' 256))[0]? = some (.int .u8 0) := by kernel_rfl
  have HST := Lib.hid (show BxRel w (.int .u8 1) (.int .u8 1) (.int .i64 0) (w.alloc (.cells (bv (99 :: zeros' 255)).toArray 5)) from ⟨0, by omega, rfl, rfl, rfl, hr0, (Below.refl _ _).alloc (Nat.le_refl _) _⟩)
  clear hr0
  generalize hl0 : bv (zeros' 256) = l0 at hz2 hmk HSET
  go_enter Tryz.func36, Tryz.ntmps36
  go_wp2_with fail
  go_loopw [2, 3, 4] (fun x k i wr => BxRel w x k i wr) (fun _ _ i _ => 255 - (intOf i).toNat)
  case atStart => rw [HSET.out]; exact HST.out
  case round =>
    clear HST HSET hmk hz2
    obtain ⟨j, hj, rfl, rfl, rfl, hrow, hbl⟩ := hrel
    by_cases hlt : j < 255
    · have f1 := row_free0 hrow (j := (bxX j).toNat) (bxX j).toNat_lt
      have c1 := row_byte0 hrow (j := (bxX j).toNat) (by rw [length_bxL]; exact (bxX j).toNat_lt)
      have hxl := (bxX j).toNat_lt
      have HNE := Lib.hid (show BxRel w (.int .u8 ((mulG (bxX j) 3).toNat : Int)) (.int .u8 ((mulG (bxK j) 246).toNat : Int)) (.int .i64 ((j : Int) + 1)) (wr.setCell ⟨w.heap.size, (bxX j).toNat, none⟩ (.int .u8 ((raff (bxK j)).toNat : Int))) from ⟨j + 1, by omega, by go_num, rfl, rfl, row_set0 hrow hxl rfl, hbl.setCell (Nat.le_refl _) _⟩)
      have HR := Lib.hid (show ((((bxK j ^^^ rl1 (bxK j)) ^^^ rl1 (rl1 (bxK j))) ^^^ rl1 (rl1 (rl1 (bxK j)))) ^^^ rl1 (rl1 (rl1 (rl1 (bxK j))))) ^^^ 99 = raff (bxK j) from rfl)
      have HM3 := Lib.hid (fun w => rMul3 (bxX j) w)
      generalize ((bxL j)[(bxX j).toNat]'_).toNat = Y at c1
      generalize bxK j = K at HNE HR ⊢
      generalize (bxX j).toNat = X at HNE f1 c1 hxl HM3 ⊢
      have o1 := bx_xor K (rl1 K)
      have o2 := bx_xor (K ^^^ rl1 K) (rl1 (rl1 K))
      have o3 := bx_xor ((K ^^^ rl1 K) ^^^ rl1 (rl1 K)) (rl1 (rl1 (rl1 K)))
      have o4 := bx_xor (((K ^^^ rl1 K) ^^^ rl1 (rl1 K)) ^^^ rl1 (rl1 (rl1 K))) (rl1 (rl1 (rl1 (rl1 K))))
      have o5 := bx_xor ((((K ^^^ rl1 K) ^^^ rl1 (rl1 K)) ^^^ rl1 (rl1 (rl1 K))) ^^^ rl1 (rl1 (rl1 (rl1 K)))) 99
      rw [show ((99 : UInt8).toNat : Int) = 99 from rfl, HR.out] at o5
      have HF := Lib.hid (show bits .xor .u8 (bits .xor .u8 (bits .xor .u8 (bits .xor .u8 (bits .xor .u8 (K.toNat : Int) ((rl1 K).toNat : Int)) ((rl1 (rl1 K)).toNat : Int)) ((rl1 (rl1 (rl1 K))).toNat : Int)) ((rl1 (rl1 (rl1 (rl1 K)))).toNat : Int)) 99 = ((raff K).toNat : Int) by rw [o1, o2, o3, o4, o5])
      clear hrow hbl o1 o2 o3 o4 o5 HR
      go_wp2_with fail
      refine (rleft1 K _).mono ?_
      rintro e w1 ⟨rfl, rfl⟩
      go_wp2_with fail
      refine (rleft2 K _).mono ?_
      rintro e w1 ⟨rfl, rfl⟩
      go_wp2_with fail
      refine (rleft3 K _).mono ?_
      rintro e w1 ⟨rfl, rfl⟩
      go_wp2_with fail
      refine (rleft4 K _).mono ?_
      rintro e w1 ⟨rfl, rfl⟩
      go_wp2_with fail
      refine (HM3.out _).mono ?_
      rintro e w1 ⟨rfl, rfl⟩
      go_wp2_with fail
      refine (rMul246 K _).mono ?_
      rintro e w1 ⟨rfl, rfl⟩
      go_wp2_with fail
      go_roundw
      case rel =>
        rw [HF.out]
        first | exact HNE.out.drew | exact HNE.out
      case measure => simp [intOf]; omega
    · obtain rfl : j = 255 := by omega
      have HROW := Lib.hid hrow
      have HBL := Lib.hid hbl
      clear hrow hbl
      go_wp2_with fail
      go_ret
      exact ⟨_, _, rfl, by rw [← bxL_sb]; exact HROW.out, HBL.out⟩
end Go.Proofs.YtiijjpjkfiookaaGreatDoor
namespace Go.Proofs.YtiijjpjkfiookaaGreatDoor
open Go.RowKit

set_option maxRecDepth 100000 in
set_option maxHeartbeats 4000000 in
theorem rPow_any (k : Nat) (w : World) (hk : k < 255) : Calls Tryz.prog 57 #[.int .u8 2, .int .i64 k] w fun e w' => e = .returned (.int .u8 ((rcG k).toNat : Int)) ∧ w = w' := by
  by_cases h0 : k = 0
  · subst h0
    go_enter Tryz.func57, Tryz.ntmps57
    go_wp2_with fail
    go_ret
    exact ⟨rfl, rfl⟩
  · have f1 : ¬ (k : Int) ≤ 0 := by omega
    have f2 : (k : Int).tmod 255 = k := by rw [Int.tmod_eq_emod_of_nonneg (by omega)]; omega
    go_enter Tryz.func57, Tryz.ntmps57
    go_wp2_with fail
    go_loop [5, 6] (fun p i => ∃ j : Nat, j ≤ k ∧ i = .int .i64 j ∧ p = .int .u8 ((rcG j).toNat : Int)) (fun _ i => k - (intOf i).toNat)
    case atStart => exact ⟨0, by omega, rfl, rfl⟩
    case round =>
      obtain ⟨j, hj, rfl, rfl⟩ := hrel
      by_cases hlt : j < k
      · have f3 : (j : Int) < k := by omega
        go_wp2_with fail
        refine (rMul2 (rcG j) _).mono ?_
        rintro e w1 ⟨rfl, rfl⟩
        go_wp2_with fail
        go_round
        case rel => exact ⟨j + 1, by omega, by go_num, rfl⟩
        case measure => simp [intOf]; omega
      · obtain rfl : j = k := by omega
        go_wp2_with fail
        go_ret
        exact ⟨rfl, rfl⟩
end Go.Proofs.YtiijjpjkfiookaaGreatDoor
namespace Go.Proofs.YtiijjpjkfiookaaGreatDoor
open Go.RowKit

theorem make16r (w : World) : (Instr.makeSlice 22 (.int .i64 16) (.int .i64 16)).run Tryz.prog w = .ok (.slice (some ⟨w.heap.size, 0, none⟩) 16 16) (w.alloc (.cells (bv (zeros' 16)).toArray 5)) := by kernel_rfl
/-- Behind i bytes laid. -/
def LayRel (w : World) (a b : List UInt8) (i : Value) (wr : World) : Prop :=
  ∃ j : Nat, j ≤ 16 ∧ i = .int .i64 j ∧ Row wr w.heap.size 1 (some ⟨w.heap.size, 0, none⟩) 16 16 (bv (setsTo (fun i => a.getD i 0 ^^^ b.getD i 0) (zeros' 16) j)) ∧ Below w.heap.size w wr
theorem LayRel.drew {w wr : World} {a b : List UInt8} {i : Value} (h : LayRel w a b i wr) : LayRel w a b i wr.drew := by
  obtain ⟨j, h1, h2, h3, h4⟩ := h
  exact ⟨j, h1, h2, h3.below (B := wr.heap.size) (Below.refl _ _).drew (Nat.le_refl _), h4.drew⟩
theorem lay_all (a b : List UInt8) (ha : a.length = 16) (hb : b.length = 16) : setsTo (fun i => a.getD i 0 ^^^ b.getD i 0) (zeros' 16) 16 = xorL a b := by
  rw [setsTo_all _ _ (n := 16) rfl]
  apply List.ext_getElem?
  intro i
  by_cases hi : i < 16
  · rw [getD_xorL a b i (by omega) (by omega)]
    simp [hi, List.getD_eq_getElem?_getD, List.getElem?_eq_getElem (show i < a.length by omega), List.getElem?_eq_getElem (show i < b.length by omega)]
  · rw [List.getElem?_eq_none (by simp; omega), List.getElem?_eq_none (by rw [length_xorL]; omega)]
set_option maxRecDepth 100000 in
set_option maxHeartbeats 4000000 in
theorem rlay_any (a b : List UInt8) (PA PB : Option Addr) (ca cb : Nat) (w : World) (ha : a.length = 16) (hb : b.length = 16) (hra : Reads w w.heap.size 1 PA 16 (bv a)) (hrb : Reads w w.heap.size 1 PB 16 (bv b)) :
    Calls Tryz.prog 63 #[.slice PA 16 ca, .slice PB 16 cb] w fun e w' => ∃ A c, e = .returned (.slice A 16 c) ∧ Row w' w.heap.size 1 A 16 c (bv (xorL a b)) ∧ Below w.heap.size w w' := by
  have hmk := make16r
  obtain ⟨ga, oa, rfl, hga, hca⟩ := hra.2 (by decide)
  obtain ⟨gb, ob, rfl, hgb, hcb⟩ := hrb.2 (by decide)
  have HST := Lib.hid (show LayRel w a b (.int .i64 0) (w.alloc (.cells (bv (zeros' 16)).toArray 5)) from ⟨0, by omega, rfl, Row.lit w (bv (zeros' 16)).toArray 5 rfl (Nat.le_refl _) (by decide), (Below.refl _ _).alloc (Nat.le_refl _) _⟩)
  have HCA := Lib.hid hca
  have HCB := Lib.hid hcb
  clear hca hcb hra hrb
  go_enter Tryz.func63, Tryz.ntmps63
  go_wp2_with fail
  go_loopw [6] (fun i wr => LayRel w a b i wr) (fun i _ => 16 - (intOf i).toNat)
  case atStart => exact HST.out
  case round =>
    clear HST hmk
    obtain ⟨j, hj, rfl, hrow, hbl⟩ := hrel
    by_cases hlt : j < 16
    · have f1 := row_free0 hrow (j := j) hlt
      have c1 := row_byte0 hrow (j := j) (by rw [length_setsTo]; exact hlt)
      have c2 := (hbl.cell (p := ⟨ga, oa + j, none⟩) hga).trans (HCA.out j _ (bv_at a j (by omega)))
      have c3 := (hbl.cell (p := ⟨gb, ob + j, none⟩) hgb).trans (HCB.out j _ (bv_at b j (by omega)))
      have HNE := Lib.hid (show LayRel w a b (.int .i64 ((j : Int) + 1)) (wr.setCell ⟨w.heap.size, j, none⟩ (.int .u8 ((a[j] ^^^ b[j]).toNat : Int))) from ⟨j + 1, by omega, by go_num, by
        have h := row_set0 hrow (j := j) hlt (c := a[j] ^^^ b[j]) rfl
        have e : a[j] ^^^ b[j] = a.getD j 0 ^^^ b.getD j 0 := by simp [List.getD_eq_getElem?_getD, List.getElem?_eq_getElem (show j < a.length by omega), List.getElem?_eq_getElem (show j < b.length by omega)]
        rw [e] at h ⊢
        exact h, hbl.setCell (Nat.le_refl _) _⟩)
      have HF := Lib.hid (bx_xor a[j] b[j])
      generalize ((setsTo (fun i => a.getD i 0 ^^^ b.getD i 0) (zeros' 16) j)[j]'_).toNat = Y at c1
      generalize a[j] = aj at *
      generalize b[j] = bj at *
      have hi : (j : Int) < 16 := by omega
      clear hrow hbl
      go_wp2_with fail
      go_region
      go_wp2_with fail
      go_roundw
      case rel => rw [HF.out]; first | exact HNE.out.drew | exact HNE.out
      case measure => simp [intOf]; omega
    · obtain rfl : j = 16 := by omega
      rw [lay_all a b ha hb] at hrow
      have HROW := Lib.hid hrow
      have HBL := Lib.hid hbl
      clear hrow hbl
      go_wp2_with fail
      go_ret
      exact ⟨_, _, rfl, HROW.out, HBL.out⟩
end Go.Proofs.YtiijjpjkfiookaaGreatDoor
namespace Go.Proofs.YtiijjpjkfiookaaGreatDoor
open Go.RowKit

/-- Behind i bytes mapped. -/
def SwapRel (w : World) (a : List UInt8) (i : Value) (wr : World) : Prop :=
  ∃ j : Nat, j ≤ 16 ∧ i = .int .i64 j ∧ Row wr w.heap.size 1 (some ⟨w.heap.size, 0, none⟩) 16 16 (bv (setsTo (fun i => sb (a.getD i 0)) (zeros' 16) j)) ∧ Below w.heap.size w wr
theorem SwapRel.drew {w wr : World} {a : List UInt8} {i : Value} (h : SwapRel w a i wr) : SwapRel w a i wr.drew := by
  obtain ⟨j, h1, h2, h3, h4⟩ := h
  exact ⟨j, h1, h2, h3.below (B := wr.heap.size) (Below.refl _ _).drew (Nat.le_refl _), h4.drew⟩
theorem swap_all (a : List UInt8) (ha : a.length = 16) : setsTo (fun i => sb (a.getD i 0)) (zeros' 16) 16 = a.map sb := by
  rw [setsTo_all _ _ (n := 16) rfl]
  apply List.ext_getElem?
  intro i
  by_cases hi : i < 16
  · simp [hi, List.getD_eq_getElem?_getD, List.getElem?_eq_getElem (show i < a.length by omega)]
  · rw [List.getElem?_eq_none (by simp; omega), List.getElem?_eq_none (by simp; omega)]
set_option maxRecDepth 100000 in
set_option maxHeartbeats 4000000 in
theorem rswap_any (a : List UInt8) (PA PB : Option Addr) (ca cb : Nat) (w : World) (ha : a.length = 16) (hra : Reads w w.heap.size 1 PA 16 (bv a)) (hrb : Reads w w.heap.size 1 PB 256 (bv sbL)) :
    Calls Tryz.prog 65 #[.slice PA 16 ca, .slice PB 256 cb] w fun e w' => ∃ A c, e = .returned (.slice A 16 c) ∧ Row w' w.heap.size 1 A 16 c (bv (a.map sb)) ∧ Below w.heap.size w w' := by
  have hmk := make16r
  obtain ⟨ga, oa, rfl, hga, hca⟩ := hra.2 (by decide)
  obtain ⟨gb, ob, rfl, hgb, hcb⟩ := hrb.2 (by decide)
  have HST := Lib.hid (show SwapRel w a (.int .i64 0) (w.alloc (.cells (bv (zeros' 16)).toArray 5)) from ⟨0, by omega, rfl, Row.lit w (bv (zeros' 16)).toArray 5 rfl (Nat.le_refl _) (by decide), (Below.refl _ _).alloc (Nat.le_refl _) _⟩)
  have HCA := Lib.hid hca
  have HCB := Lib.hid hcb
  clear hca hcb hra hrb
  go_enter Tryz.func65, Tryz.ntmps65
  go_wp2_with fail
  go_loopw [6] (fun i wr => SwapRel w a i wr) (fun i _ => 16 - (intOf i).toNat)
  case atStart => exact HST.out
  case round =>
    clear HST hmk
    obtain ⟨j, hj, rfl, hrow, hbl⟩ := hrel
    by_cases hlt : j < 16
    · obtain ⟨x, hx⟩ : ∃ x, x = a[j] := ⟨_, rfl⟩
      have hxl := x.toNat_lt
      have f1 := row_free0 hrow (j := j) hlt
      have c1 := row_byte0 hrow (j := j) (by rw [length_setsTo]; exact hlt)
      have c2 := (hbl.cell (p := ⟨ga, oa + j, none⟩) hga).trans (HCA.out j _ (bv_at a j (by omega)))
      rw [← hx] at c2
      have hs : sbL[x.toNat]'(by rw [length_sbL]; exact hxl) = sb x := by
        have h := sbL_at x.toNat hxl
        rw [UInt8.ofNat_toNat] at h
        simpa [List.getD_eq_getElem?_getD, List.getElem?_eq_getElem (show x.toNat < sbL.length by rw [length_sbL]; exact hxl)] using h
      have c3 := (hbl.cell (p := ⟨gb, ob + x.toNat, none⟩) hgb).trans (HCB.out x.toNat _ (bv_at sbL x.toNat (by rw [length_sbL]; exact hxl)))
      rw [hs] at c3
      have HNE := Lib.hid (show SwapRel w a (.int .i64 ((j : Int) + 1)) (wr.setCell ⟨w.heap.size, j, none⟩ (.int .u8 ((sb x).toNat : Int))) from ⟨j + 1, by omega, by go_num, by
        have h := row_set0 hrow (j := j) hlt (c := sb x) rfl
        have e : x = a.getD j 0 := by simp [hx, List.getD_eq_getElem?_getD, List.getElem?_eq_getElem (show j < a.length by omega)]
        rw [e] at h ⊢
        exact h, hbl.setCell (Nat.le_refl _) _⟩)
      generalize ((setsTo (fun i => sb (a.getD i 0)) (zeros' 16) j)[j]'_).toNat = Y at c1
      have hi : (j : Int) < 16 := by omega
      clear hrow hbl hs hx
      generalize (sb x).toNat = S at *
      generalize x.toNat = X at *
      go_wp2_with fail
      go_roundw
      case rel => first | exact HNE.out.drew | exact HNE.out
      case measure => simp [intOf]; omega
    · obtain rfl : j = 16 := by omega
      rw [swap_all a ha] at hrow
      have HROW := Lib.hid hrow
      have HBL := Lib.hid hbl
      clear hrow hbl
      go_wp2_with fail
      go_ret
      exact ⟨_, _, rfl, HROW.out, HBL.out⟩
end Go.Proofs.YtiijjpjkfiookaaGreatDoor
namespace Go.Proofs.YtiijjpjkfiookaaGreatDoor
open Go.RowKit

theorem xt_big : ∀ t, t < 256 → 255 < 2 * t → (2 * t) ^^^ 283 = (xt (UInt8.ofNat t)).toNat := by decide +kernel
theorem xt_small : ∀ t, t < 256 → ¬ 255 < 2 * t → 2 * t = (xt (UInt8.ofNat t)).toNat := by decide +kernel
theorem xt_yes {t : UInt8} (h : 255 < 2 * t.toNat) : bits .xor .i64 (2 * (t.toNat : Int)) 283 = ((xt t).toNat : Int) := by
  have h1 := xt_big t.toNat t.toNat_lt h
  rw [UInt8.ofNat_toNat] at h1
  have h2 := bx64_xor (a := 2 * t.toNat) (b := 283) (by have := t.toNat_lt; omega) (by decide)
  rw [h1] at h2
  exact h2
theorem xt_no {t : UInt8} (h : ¬ 255 < 2 * t.toNat) : 2 * (t.toNat : Int) = ((xt t).toNat : Int) := by
  have h1 := xt_small t.toNat t.toNat_lt h
  rw [UInt8.ofNat_toNat] at h1
  omega
/-- What n more rounds bring. -/
def fin3 (n : Nat) (p t : UInt8) : UInt8 :=
  match n with
  | 0 => p
  | 1 => p ^^^ t
  | 2 => p ^^^ xt t
  | _ => (p ^^^ t) ^^^ xt t
set_option maxRecDepth 100000 in
set_option maxHeartbeats 4000000 in
theorem rtimes_any (n : Nat) (b : UInt8) (w : World) (hn : n ≤ 3) : Calls Tryz.prog 75 #[.int .i64 n, .int .u8 (b.toNat : Int)] w fun e w' => e = .returned (.int .u8 ((fin3 n 0 b).toNat : Int)) ∧ w = w' := by
  go_enter Tryz.func75, Tryz.ntmps75
  go_wp2_with fail
  go_loop [0, 5, 6] (fun v p t => ∃ (m : Nat) (q s : UInt8), m ≤ 3 ∧ v = .int .i64 m ∧ p = .int .u8 (q.toNat : Int) ∧ t = .int .i64 (s.toNat : Int) ∧ fin3 m q s = fin3 n 0 b) (fun v _ _ => (intOf v).toNat)
  case atStart => exact ⟨n, 0, b, hn, rfl, rfl, by have := b.toNat_lt; rw [show wrap64 (b.toNat : Int) = b.toNat by unfold wrap64; omega], rfl⟩
  case round =>
    obtain ⟨m, q, s, hm, rfl, rfl, rfl, hf⟩ := hrel
    have HF := Lib.hid hf
    clear hf
    have hs := s.toNat_lt
    have e1 : (s.toNat : Int) % 256 = s.toNat := by omega
    have HX := Lib.hid (bx_xor q s)
    obtain rfl | rfl | rfl | rfl : m = 0 ∨ m = 1 ∨ m = 2 ∨ m = 3 := by omega
    · go_wp2_with fail
      go_ret
      exact ⟨by rw [← HF.out]; rfl, rfl⟩
    · by_cases hbig : 255 < 2 * s.toNat
      · have HY := Lib.hid (xt_yes hbig)
        have hb2 : (255 : Int) < 2 * s.toNat := by omega
        go_wp2_with fail
        exact ⟨⟨0, q ^^^ s, xt s, by omega, rfl, by rw [HX.out], by rw [HY.out], HF.out⟩, by decide⟩
      · have HY := Lib.hid (xt_no hbig)
        have hb2 : ¬ (255 : Int) < 2 * s.toNat := by omega
        go_wp2_with fail
        exact ⟨⟨0, q ^^^ s, xt s, by omega, rfl, by rw [HX.out], by rw [HY.out], HF.out⟩, by decide⟩
    · by_cases hbig : 255 < 2 * s.toNat
      · have HY := Lib.hid (xt_yes hbig)
        have hb2 : (255 : Int) < 2 * s.toNat := by omega
        go_wp2_with fail
        exact ⟨⟨1, q, xt s, by omega, rfl, rfl, by rw [HY.out], HF.out⟩, by decide⟩
      · have HY := Lib.hid (xt_no hbig)
        have hb2 : ¬ (255 : Int) < 2 * s.toNat := by omega
        go_wp2_with fail
        exact ⟨⟨1, q, xt s, by omega, rfl, rfl, by rw [HY.out], HF.out⟩, by decide⟩
    · by_cases hbig : 255 < 2 * s.toNat
      · have HY := Lib.hid (xt_yes hbig)
        have hb2 : (255 : Int) < 2 * s.toNat := by omega
        go_wp2_with fail
        exact ⟨⟨1, q ^^^ s, xt s, by omega, rfl, by rw [HX.out], by rw [HY.out], HF.out⟩, by decide⟩
      · have HY := Lib.hid (xt_no hbig)
        have hb2 : ¬ (255 : Int) < 2 * s.toNat := by omega
        go_wp2_with fail
        exact ⟨⟨1, q ^^^ s, xt s, by omega, rfl, by rw [HX.out], by rw [HY.out], HF.out⟩, by decide⟩
end Go.Proofs.YtiijjpjkfiookaaGreatDoor
namespace Go.Proofs.YtiijjpjkfiookaaGreatDoor
open Go.RowKit

/-- Behind n bytes turned. -/
def TurnRel (w : World) (a : List UInt8) (n : Nat) (wr : World) : Prop :=
  Row wr w.heap.size 1 (some ⟨w.heap.size, 0, none⟩) 16 16 (bv (setsTo (fun i => a.getD (trn i) 0) (zeros' 16) n)) ∧ Below w.heap.size w wr
theorem TurnRel.drew {w wr : World} {a : List UInt8} {n : Nat} (h : TurnRel w a n wr) : TurnRel w a n wr.drew :=
  ⟨h.1.below (B := wr.heap.size) (Below.refl _ _).drew (Nat.le_refl _), h.2.drew⟩
set_option maxRecDepth 100000 in
set_option maxHeartbeats 4000000 in
theorem rshift_any (a : List UInt8) (PA : Option Addr) (ca : Nat) (w : World) (ha : a.length = 16) (hra : Reads w w.heap.size 1 PA 16 (bv a)) :
    Calls Tryz.prog 64 #[.slice PA 16 ca, .int .i64 1] w fun e w' => ∃ A c, e = .returned (.slice A 16 c) ∧ Row w' w.heap.size 1 A 16 c (bv ((List.range 16).map fun i => a.getD (trn i) 0)) ∧ Below w.heap.size w w' := by
  have hmk := make16r
  obtain ⟨ga, oa, rfl, hga, hca⟩ := hra.2 (by decide)
  have HST := Lib.hid (show TurnRel w a 0 (w.alloc (.cells (bv (zeros' 16)).toArray 5)) from ⟨Row.lit w (bv (zeros' 16)).toArray 5 rfl (Nat.le_refl _) (by decide), (Below.refl _ _).alloc (Nat.le_refl _) _⟩)
  have HCA := Lib.hid hca
  clear hca hra
  go_enter Tryz.func64, Tryz.ntmps64
  go_wp2_with fail
  go_loopw [6] (fun i wr => ∃ k : Nat, k ≤ 4 ∧ i = .int .i64 k ∧ TurnRel w a (4 * k) wr) (fun i _ => 4 - (intOf i).toNat)
  case atStart => exact ⟨0, by omega, rfl, HST.out⟩
  case round =>
    clear HST hmk
    obtain ⟨k, hk, rfl, hrel⟩ := hrel
    have HREL := Lib.hid hrel
    clear hrel
    by_cases hlt : k < 4
    · have hki : (k : Int) < 4 := by omega
      go_wp2_with fail
      go_loopw [7] (fun i wr => ∃ l : Nat, l ≤ 4 ∧ i = .int .i64 l ∧ TurnRel w a (4 * k + l) wr) (fun i _ => 4 - (intOf i).toNat)
      case atStart => exact ⟨0, by omega, rfl, HREL.out⟩
      case round =>
        clear HREL
        obtain ⟨l, hl, rfl, hrow, hbl⟩ := hrel
        by_cases hl4 : l < 4
        · have hli : (l : Int) < 4 := by omega
          have hbl' := hbl
          obtain ⟨p, hp⟩ : ∃ p, p = 4 * k + l := ⟨_, rfl⟩
          obtain ⟨T, hT⟩ : ∃ T, T = trn p := ⟨_, rfl⟩
          have hT16 : T < 16 := by rw [hT]; exact Nat.mod_lt _ (by decide)
          rw [← hp] at hrow
          have hp16 : p < 16 := by omega
          have f1 := row_free0 hrow (j := p) hp16
          have c1 := row_byte0 hrow (j := p) (by rw [length_setsTo]; exact hp16)
          have c2 := (hbl.cell (p := ⟨ga, oa + T, none⟩) hga).trans (HCA.out T _ (bv_at a T (by omega)))
          have HNE := Lib.hid (show TurnRel w a (4 * k + (l + 1)) (wr.setCell ⟨w.heap.size, p, none⟩ (.int .u8 ((a[T]'(by omega)).toNat : Int))) from by
            refine ⟨?_, hbl'.setCell (Nat.le_refl _) _⟩
            rw [show 4 * k + (l + 1) = p + 1 by omega]
            have h := row_set0 hrow (j := p) hp16 (c := a[T]'(by omega)) rfl
            have e : a[T]'(by omega) = a.getD (trn p) 0 := by rw [← hT]; simp [List.getD_eq_getElem?_getD, List.getElem?_eq_getElem (show T < a.length by omega)]
            rw [e] at h ⊢
            exact h)
          have e1 : (4 : Int) * (k : Int) + (l : Int) = (p : Int) := by omega
          have e2 : ((p : Int) + 4 * (l : Int)) % 16 = (T : Int) := by
            rw [hT]; unfold trn
            rw [show p % 4 = l by omega]; omega
          have e3 : (p : Int) < 16 := by omega
          have e4 : (T : Int) < 16 := by omega
          generalize ((setsTo (fun i => a.getD (trn i) 0) (zeros' 16) p)[p]'_).toNat = Y at c1
          generalize (a[T]'(by omega)).toNat = S at *
          clear hrow hbl hbl' hp hT
          go_wp2_with fail
          go_roundw
          case rel => exact ⟨l + 1, by omega, by go_num, HNE.out⟩
          case measure => simp [intOf]; omega
        · obtain rfl : l = 4 := by omega
          have HR := Lib.hid (show TurnRel w a (4 * (k + 1)) _ from ⟨hrow, hbl⟩)
          clear hrow hbl
          go_wp2_with fail
          exact ⟨⟨k + 1, by omega, by go_num, HR.out⟩, by simp [intOf]; omega⟩
    · obtain rfl : k = 4 := by omega
      have h16 : setsTo (fun i => a.getD (trn i) 0) (zeros' 16) 16 = (List.range 16).map fun i => a.getD (trn i) 0 := setsTo_all _ _ rfl
      go_wp2_with fail
      go_ret
      exact ⟨_, _, rfl, by rw [← h16]; exact HREL.out.1, HREL.out.2⟩
end Go.Proofs.YtiijjpjkfiookaaGreatDoor
namespace Go.Proofs.YtiijjpjkfiookaaGreatDoor

instance : Std.Associative (α := UInt8) (· ^^^ ·) := ⟨UInt8.xor_assoc⟩
instance : Std.Commutative (α := UInt8) (· ^^^ ·) := ⟨UInt8.xor_comm⟩
theorem xt_bit : ∀ n, n < 256 → xt (UInt8.ofNat n) = (UInt8.ofNat n <<< 1) ^^^ (if n.testBit 7 then 27 else 0) := by decide +kernel
theorem xt_shape (a : UInt8) : xt a = (a <<< 1) ^^^ (if a.toNat.testBit 7 then 27 else 0) := by
  have h := xt_bit a.toNat a.toNat_lt
  rwa [UInt8.ofNat_toNat] at h
theorem xt_xor (a b : UInt8) : xt (a ^^^ b) = xt a ^^^ xt b := by
  rw [xt_shape, xt_shape a, xt_shape b]
  have h : (a ^^^ b).toNat.testBit 7 = (a.toNat.testBit 7 != b.toNat.testBit 7) := by rw [UInt8.toNat_xor, Nat.testBit_xor]
  have hs : (a ^^^ b) <<< 1 = (a <<< 1) ^^^ (b <<< 1) := by
    apply UInt8.toNat_inj.1
    simp only [UInt8.toNat_shiftLeft, UInt8.toNat_xor]
    simp [Nat.shiftLeft_xor_distrib, Nat.xor_mod_two_pow (n := 8)]
  rw [h, hs]
  cases a.toNat.testBit 7 <;> cases b.toNat.testBit 7
  · simp
  · show (a <<< 1 ^^^ b <<< 1) ^^^ (27 : UInt8) = (a <<< 1 ^^^ (0 : UInt8)) ^^^ (b <<< 1 ^^^ (27 : UInt8))
    simp only [UInt8.xor_zero]; ac_rfl
  · show (a <<< 1 ^^^ b <<< 1) ^^^ (27 : UInt8) = (a <<< 1 ^^^ (27 : UInt8)) ^^^ (b <<< 1 ^^^ (0 : UInt8))
    simp only [UInt8.xor_zero]; ac_rfl
  · show (a <<< 1 ^^^ b <<< 1) ^^^ (0 : UInt8) = (a <<< 1 ^^^ (27 : UInt8)) ^^^ (b <<< 1 ^^^ (27 : UInt8))
    rw [show (a <<< 1 ^^^ (27 : UInt8)) ^^^ (b <<< 1 ^^^ (27 : UInt8)) = (a <<< 1 ^^^ b <<< 1) ^^^ ((27 : UInt8) ^^^ 27) by ac_rfl, UInt8.xor_self]
/-- The factor of the byte k places on. -/
def fct (k : Nat) : Nat := if k = 0 then 2 else if k = 1 then 3 else 1
theorem fct_le (k : Nat) : fct k ≤ 3 := by unfold fct; split; omega; split <;> omega
/-- Behind k factors. -/
def mixAt (b : List UInt8) (c r : Nat) : Nat → UInt8
  | 0 => 0
  | k + 1 => mixAt b c r k ^^^ fin3 (fct k) 0 (b.getD (4 * c + (r + k) % 4) 0)
theorem mix_six (x0 x1 x2 x3 p q : UInt8) : ((((0 : UInt8) ^^^ (0 ^^^ p)) ^^^ ((0 ^^^ x1) ^^^ q)) ^^^ (0 ^^^ x2)) ^^^ (0 ^^^ x3) = x0 ^^^ ((((x0 ^^^ x1) ^^^ x2) ^^^ x3) ^^^ (p ^^^ q)) := by
  rw [show x0 ^^^ ((((x0 ^^^ x1) ^^^ x2) ^^^ x3) ^^^ (p ^^^ q)) = (x0 ^^^ x0) ^^^ (((p ^^^ (x1 ^^^ q)) ^^^ x2) ^^^ x3) by ac_rfl, UInt8.xor_self]
  simp only [UInt8.zero_xor]
theorem mixAt_all (b : List UInt8) (c r : Nat) (hr : r < 4) : mixAt b c r 4 = mixB b (4 * c + r) := by
  show ((((0 : UInt8) ^^^ fin3 2 0 _) ^^^ fin3 3 0 _) ^^^ fin3 1 0 _) ^^^ fin3 1 0 _ = _
  unfold mixB
  rw [show (4 * c + r) / 4 = c by omega, show (4 * c + r) % 4 = r by omega, xt_xor]
  have e : r = 0 ∨ r = 1 ∨ r = 2 ∨ r = 3 := by omega
  have z : ∀ n : Nat, 4 * c + (0 + n) % 4 = 4 * c + n % 4 := fun n => by rw [Nat.zero_add]
  rcases e with rfl | rfl | rfl | rfl
  · show ((((0 : UInt8) ^^^ (0 ^^^ xt (b.getD (4 * c) 0))) ^^^ ((0 ^^^ b.getD (4 * c + 1) 0) ^^^ xt (b.getD (4 * c + 1) 0))) ^^^ (0 ^^^ b.getD (4 * c + 2) 0)) ^^^ (0 ^^^ b.getD (4 * c + 3) 0) = b.getD (4 * c) 0 ^^^ ((((b.getD (4 * c) 0 ^^^ b.getD (4 * c + 1) 0) ^^^ b.getD (4 * c + 2) 0) ^^^ b.getD (4 * c + 3) 0) ^^^ (xt (b.getD (4 * c) 0) ^^^ xt (b.getD (4 * c + 1) 0)))
    exact mix_six _ _ _ _ _ _
  · show ((((0 : UInt8) ^^^ (0 ^^^ xt (b.getD (4 * c + 1) 0))) ^^^ ((0 ^^^ b.getD (4 * c + 2) 0) ^^^ xt (b.getD (4 * c + 2) 0))) ^^^ (0 ^^^ b.getD (4 * c + 3) 0)) ^^^ (0 ^^^ b.getD (4 * c) 0) = b.getD (4 * c + 1) 0 ^^^ ((((b.getD (4 * c) 0 ^^^ b.getD (4 * c + 1) 0) ^^^ b.getD (4 * c + 2) 0) ^^^ b.getD (4 * c + 3) 0) ^^^ (xt (b.getD (4 * c + 1) 0) ^^^ xt (b.getD (4 * c + 2) 0)))
    rw [mix_six (b.getD (4 * c + 1) 0)]
    ac_rfl
  · show ((((0 : UInt8) ^^^ (0 ^^^ xt (b.getD (4 * c + 2) 0))) ^^^ ((0 ^^^ b.getD (4 * c + 3) 0) ^^^ xt (b.getD (4 * c + 3) 0))) ^^^ (0 ^^^ b.getD (4 * c) 0)) ^^^ (0 ^^^ b.getD (4 * c + 1) 0) = b.getD (4 * c + 2) 0 ^^^ ((((b.getD (4 * c) 0 ^^^ b.getD (4 * c + 1) 0) ^^^ b.getD (4 * c + 2) 0) ^^^ b.getD (4 * c + 3) 0) ^^^ (xt (b.getD (4 * c + 2) 0) ^^^ xt (b.getD (4 * c + 3) 0)))
    rw [mix_six (b.getD (4 * c + 2) 0)]
    ac_rfl
  · show ((((0 : UInt8) ^^^ (0 ^^^ xt (b.getD (4 * c + 3) 0))) ^^^ ((0 ^^^ b.getD (4 * c) 0) ^^^ xt (b.getD (4 * c) 0))) ^^^ (0 ^^^ b.getD (4 * c + 1) 0)) ^^^ (0 ^^^ b.getD (4 * c + 2) 0) = b.getD (4 * c + 3) 0 ^^^ ((((b.getD (4 * c) 0 ^^^ b.getD (4 * c + 1) 0) ^^^ b.getD (4 * c + 2) 0) ^^^ b.getD (4 * c + 3) 0) ^^^ (xt (b.getD (4 * c + 3) 0) ^^^ xt (b.getD (4 * c) 0)))
    rw [mix_six (b.getD (4 * c + 3) 0)]
    ac_rfl
end Go.Proofs.YtiijjpjkfiookaaGreatDoor
namespace Go.Proofs.YtiijjpjkfiookaaGreatDoor
open Go.RowKit

/-- Numbers as cells. -/
def nv (l : List Nat) : List Value := l.map fun (x : Nat) => .int .i64 (x : Int)
theorem fct_at {j : Nat} (h : j < 4) : (nv [2, 3, 1, 1])[j]? = some (.int .i64 (fct j : Nat)) := by
  obtain rfl | rfl | rfl | rfl : j = 0 ∨ j = 1 ∨ j = 2 ∨ j = 3 := by omega
  all_goals rfl
/-- Behind n bytes mixed. -/
def MixRel (w : World) (b : List UInt8) (n : Nat) (wr : World) : Prop :=
  Row wr w.heap.size 1 (some ⟨w.heap.size, 0, none⟩) 16 16 (bv (setsTo (mixB b) (zeros' 16) n)) ∧ Below w.heap.size w wr
theorem MixRel.drewN {w wr : World} {b : List UInt8} {n : Nat} (h : MixRel w b n wr) (k : Nat) : MixRel w b n (wr.drewN k) := ⟨h.1.drewN k, below_drewN h.2 k⟩
set_option maxRecDepth 100000 in
set_option maxHeartbeats 8000000 in
theorem rmix_any (b : List UInt8) (PB PF : Option Addr) (cb cf : Nat) (w : World) (hb : b.length = 16) (hrb : Reads w w.heap.size 1 PB 16 (bv b)) (hrf : Reads w w.heap.size 1 PF 4 (nv [2, 3, 1, 1])) :
    Calls Tryz.prog 66 #[.slice PB 16 cb, .slice PF 4 cf] w fun e w' => ∃ A c, e = .returned (.slice A 16 c) ∧ Row w' w.heap.size 1 A 16 c (bv (mixL b)) ∧ Below w.heap.size w w' := by
  have hmk := make16r
  obtain ⟨gb, ob, rfl, hgb, hcb⟩ := hrb.2 (by decide)
  obtain ⟨gf, og, rfl, hgf, hcf⟩ := hrf.2 (by decide)
  have HST := Lib.hid (show MixRel w b 0 (w.alloc (.cells (bv (zeros' 16)).toArray 5)) from ⟨Row.lit w (bv (zeros' 16)).toArray 5 rfl (Nat.le_refl _) (by decide), (Below.refl _ _).alloc (Nat.le_refl _) _⟩)
  have HCB := Lib.hid hcb
  have HCF := Lib.hid hcf
  clear hcb hcf hrb hrf
  go_enter Tryz.func66, Tryz.ntmps66
  go_wp2_with fail
  go_loopw [6] (fun i wr => ∃ k : Nat, k ≤ 4 ∧ i = .int .i64 k ∧ MixRel w b (4 * k) wr) (fun i _ => 4 - (intOf i).toNat)
  case atStart => exact ⟨0, by omega, rfl, HST.out⟩
  case round =>
    clear HST hmk
    obtain ⟨k, hk, rfl, hrel⟩ := hrel
    have HREL := Lib.hid hrel
    clear hrel
    by_cases hlt : k < 4
    · have hki : (k : Int) < 4 := by omega
      go_wp2_with fail
      go_loopw [7] (fun i wr => ∃ l : Nat, l ≤ 4 ∧ i = .int .i64 l ∧ MixRel w b (4 * k + l) wr) (fun i _ => 4 - (intOf i).toNat)
      case atStart => exact ⟨0, by omega, rfl, HREL.out⟩
      case round =>
        clear HREL
        obtain ⟨l, hl, rfl, hrel⟩ := hrel
        have HREL := Lib.hid hrel
        clear hrel
        by_cases hl4 : l < 4
        · have hli : (l : Int) < 4 := by omega
          go_wp2_with fail
          go_loopw [8, 9] (fun x i wr => ∃ j : Nat, j ≤ 4 ∧ x = .int .u8 ((mixAt b k l j).toNat : Int) ∧ i = .int .i64 j ∧ MixRel w b (4 * k + l) wr) (fun _ i _ => 4 - (intOf i).toNat)
          case atStart => exact ⟨0, by omega, rfl, rfl, HREL.out⟩
          case round =>
            clear HREL
            obtain ⟨j, hj, rfl, rfl, hrel⟩ := hrel
            have HREL := Lib.hid hrel
            by_cases hj4 : j < 4
            · have hji : (j : Int) < 4 := by omega
              obtain ⟨M, hM⟩ : ∃ M, M = (l + j) % 4 := ⟨_, rfl⟩
              obtain ⟨q, hq⟩ : ∃ q, q = 4 * k + M := ⟨_, rfl⟩
              have hM4 : M < 4 := by omega
              have hq16 : q < b.length := by omega
              have hqi : (q : Int) < 16 := by omega
              have c1 := (hrel.2.cell (p := ⟨gf, og + j, none⟩) hgf).trans (HCF.out j _ (fct_at hj4))
              have c2 := (hrel.2.cell (p := ⟨gb, ob + q, none⟩) hgb).trans (HCB.out q _ (bv_at b q hq16))
              have hnx : mixAt b k l (j + 1) = mixAt b k l j ^^^ fin3 (fct j) 0 b[q] := by
                show mixAt b k l j ^^^ fin3 (fct j) 0 (b.getD (4 * k + (l + j) % 4) 0) = _
                rw [← hM, ← hq]; simp [List.getD_eq_getElem?_getD, List.getElem?_eq_getElem hq16]
              have HNX := Lib.hid hnx
              have HT := Lib.hid (fun w => rtimes_any (fct j) b[q] w (fct_le j))
              have HXR := Lib.hid (bx_xor (mixAt b k l j) (fin3 (fct j) 0 b[q]))
              have k1 : IntKind.i64.wrap (4 * (k : Int)) = 4 * (k : Int) := IntWalk.i64_in _ (by omega)
              have k2 : IntKind.i64.wrap ((l : Int) + (j : Int)) = (l : Int) + (j : Int) := IntWalk.i64_in _ (by omega)
              have k3 : ((l : Int) + (j : Int)).tmod 4 = (M : Int) := by rw [Int.tmod_eq_emod_of_nonneg (by omega)]; omega
              have k4 : IntKind.i64.wrap (4 * (k : Int) + (M : Int)) = (q : Int) := by rw [show 4 * (k : Int) + (M : Int) = (q : Int) by omega]; exact IntWalk.i64_in _ (by omega)
              have k5 : IntKind.i64.wrap (M : Int) = (M : Int) := IntWalk.i64_in _ (by omega)
              clear hnx hrel hM hq hM4
              generalize fct j = F at *
              generalize b[q] = bq at *
              generalize mixAt b k l j = mx at *
              generalize fin3 F 0 bq = fx at *
              go_wp2_with fail
              go_quiet (exact Calls.quiet_of_same ((HT.out _).mono fun _ _ h => ⟨h.1, h.2.symm⟩))
              go_wp2_with fail
              go_roundw
              case rel => exact ⟨j + 1, by omega, by rw [HNX.out, HXR.out], by go_num, HREL.out.drewN _⟩
              case measure => simp [intOf]; omega
            · obtain rfl : j = 4 := by omega
              have hma := mixAt_all b k l hl4
              obtain ⟨p, hp⟩ : ∃ p, p = 4 * k + l := ⟨_, rfl⟩
              rw [← hp] at hma hrel
              rw [hma]
              have hp16 : p < 16 := by omega
              obtain ⟨hrow, hbl⟩ := hrel
              have f1 := row_free0 hrow (j := p) hp16
              have c1 := row_byte0 hrow (j := p) (by rw [length_setsTo]; exact hp16)
              have HNE := Lib.hid (show MixRel w b (4 * k + (l + 1)) (wr.setCell ⟨w.heap.size, p, none⟩ (.int .u8 ((mixB b p).toNat : Int))) from by
                refine ⟨?_, hbl.setCell (Nat.le_refl _) _⟩
                rw [show 4 * k + (l + 1) = p + 1 by omega]
                exact row_set0 hrow (j := p) hp16 (c := mixB b p) rfl)
              have e1 : (4 : Int) * (k : Int) + (l : Int) = (p : Int) := by omega
              have e3 : (p : Int) < 16 := by omega
              generalize ((setsTo (mixB b) (zeros' 16) p)[p]'_).toNat = Y at c1
              generalize (mixB b p).toNat = S at *
              clear hrow hbl hp HREL hma
              go_wp2_with fail
              exact ⟨⟨l + 1, by omega, by go_num, HNE.out⟩, by simp [intOf]; omega⟩
        · obtain rfl : l = 4 := by omega
          go_wp2_with fail
          exact ⟨⟨k + 1, by omega, by go_num, HREL.out⟩, by simp [intOf]; omega⟩
    · obtain rfl : k = 4 := by omega
      have h16 : setsTo (mixB b) (zeros' 16) 16 = mixL b := setsTo_all _ _ rfl
      go_wp2_with fail
      go_ret
      exact ⟨_, _, rfl, by rw [← h16]; exact HREL.out.1, HREL.out.2⟩
end Go.Proofs.YtiijjpjkfiookaaGreatDoor
namespace Go.Proofs.YtiijjpjkfiookaaGreatDoor
open Go.RowKit

/-! ### words -/
theorem kexp_pre (key : List UInt8) (k : Nat) : ∀ d, ∃ r, kexp key (k + d) = kexp key k ++ r
  | 0 => ⟨[], by simp⟩
  | d + 1 => by
    obtain ⟨r, hr⟩ := kexp_pre key k d
    have h : ∀ z, kexp key (z + 1) = kexp key z ++ xorL (tword (key.length / 4) (key.length / 4 + z) (((kexp key z).drop (4 * (key.length / 4 + z) - 4)).take 4)) (((kexp key z).drop (4 * z)).take 4) := fun _ => rfl
    rw [show k + (d + 1) = (k + d) + 1 by omega, h (k + d), hr, List.append_assoc]
    exact ⟨_, rfl⟩
theorem take_pre {a r : List UInt8} {m : Nat} (h : m + 4 ≤ a.length) : ((a ++ r).drop m).take 4 = (a.drop m).take 4 := by
  rw [List.drop_append_of_le_length (by omega), List.take_append_of_le_length (by rw [List.length_drop]; omega)]
/-- Word j of a key. -/
def wordK (key : List UInt8) (j : Nat) : List UInt8 := ((kexp key (3 * (key.length / 4) + 28)).drop (4 * j)).take 4
section
variable {key : List UInt8} (hk : key.length = 16 ∨ key.length = 32)
include hk
theorem word_in {k j : Nat} (h : k ≤ 3 * (key.length / 4) + 28) (hj : j < key.length / 4 + k) : wordK key j = ((kexp key k).drop (4 * j)).take 4 := by
  obtain ⟨r, hr⟩ := kexp_pre key k (3 * (key.length / 4) + 28 - k)
  unfold wordK
  rw [show 3 * (key.length / 4) + 28 = k + (3 * (key.length / 4) + 28 - k) by omega, hr, take_pre (by rw [length_kexp key hk]; omega)]
theorem word_key {j : Nat} (hj : j < key.length / 4) : wordK key j = (key.drop (4 * j)).take 4 := word_in hk (k := 0) (by omega) (by omega)
theorem length_wordK {j : Nat} (hj : j < 4 * (key.length / 4 + 7)) : (wordK key j).length = 4 := by
  unfold wordK; rw [List.length_take, List.length_drop, length_kexp key hk]; omega
theorem word_next {i : Nat} (h1 : key.length / 4 ≤ i) (h2 : i < 4 * (key.length / 4 + 7)) : wordK key i = xorL (tword (key.length / 4) i (wordK key (i - 1))) (wordK key (i - key.length / 4)) := by
  obtain ⟨k, hk2⟩ : ∃ k, k = i - key.length / 4 := ⟨_, rfl⟩
  have hi : i = key.length / 4 + k := by omega
  rw [word_in hk (k := k + 1) (by omega) (by omega), word_in hk (j := i - 1) (k := k) (by omega) (by omega), word_in hk (j := i - key.length / 4) (k := k) (by omega) (by omega)]
  have hl := length_kexp key hk k
  show ((kexp key k ++ xorL (tword (key.length / 4) (key.length / 4 + k) (((kexp key k).drop (4 * (key.length / 4 + k) - 4)).take 4)) (((kexp key k).drop (4 * k)).take 4)).drop (4 * i)).take 4 = _
  rw [← hi, show 4 * i - 4 = 4 * (i - 1) by omega, show i - key.length / 4 = k by omega]
  have hxl : (xorL (tword (key.length / 4) i (((kexp key k).drop (4 * (i - 1))).take 4)) (((kexp key k).drop (4 * k)).take 4)).length = 4 := by
    rw [length_xorL, length_tword _ _ (by rw [List.length_take, List.length_drop, hl]; omega), List.length_take, List.length_drop, hl]; omega
  generalize xorL (tword (key.length / 4) i (((kexp key k).drop (4 * (i - 1))).take 4)) (((kexp key k).drop (4 * k)).take 4) = z at hxl ⊢
  rw [show 4 * i = (kexp key k).length by rw [hl]; omega, List.drop_left, List.take_of_length_le (by omega)]
theorem rks_words {r : Nat} (h : r < key.length / 4 + 7) : (rksOf key).getD r [] = wordK key (4 * r) ++ wordK key (4 * r + 1) ++ wordK key (4 * r + 2) ++ wordK key (4 * r + 3) := by
  rw [rks_at key h]
  unfold wordK
  have hl := length_kexp key hk (3 * (key.length / 4) + 28)
  generalize kexp key (3 * (key.length / 4) + 28) = z at hl ⊢
  have t : ∀ (l : List UInt8) (m n : Nat), (l.drop m).take (4 + n) = (l.drop m).take 4 ++ (l.drop (m + 4)).take n := fun l m n => by rw [List.take_add, List.drop_drop]
  rw [show (16 : Nat) = 4 + (4 + (4 + 4)) by rfl, t, t, t, show (4 + (4 + (4 + 4))) * r = 4 * (4 * r) by omega, show 4 * (4 * r) + 4 = 4 * (4 * r + 1) by omega, show 4 * (4 * r + 1) + 4 = 4 * (4 * r + 2) by omega, show 4 * (4 * r + 2) + 4 = 4 * (4 * r + 3) by omega]
  simp only [List.append_assoc]
end
/-! ### rows of rows -/
/-- A row of the call's own of rows of bytes; they lie in other blocks, all below U. -/
def RowsP (w : World) (B U : Nat) (A : Option Addr) (n c : Nat) (L : List (List UInt8)) : Prop :=
  L.length = n ∧ ∃ vs : List Value, Row w B 1 A n c vs ∧ (∀ ad, A = some ad → ad.block < U) ∧ ∀ i (h : i < L.length), ∃ v, vs[i]? = some v ∧ Part w (fun k => B ≤ k ∧ k < U ∧ ∀ ad, A = some ad → k ≠ ad.block) v L[i]
section
variable {w w' : World} {B B' U U' n c : Nat} {A : Option Addr} {L : List (List UInt8)}
theorem RowsP.nil_ (w : World) (B U : Nat) : RowsP w B U none 0 0 [] := ⟨rfl, [], Row.nil_ _ _ _, (fun _ h => by cases h), fun i h => absurd h (by simp)⟩
theorem RowsP.mono (h : RowsP w B U A n c L) (hU : U ≤ U') : RowsP w B U' A n c L := by
  obtain ⟨h1, vs, h2, h3, h4⟩ := h
  refine ⟨h1, vs, h2, fun ad e => Nat.lt_of_lt_of_le (h3 ad e) hU, fun i hi => ?_⟩
  obtain ⟨v, h5, h6⟩ := h4 i hi
  exact ⟨v, h5, h6.mono fun k hk => ⟨hk.1, by have := hk.2.1; omega, hk.2.2⟩⟩
theorem RowsP.low (h : RowsP w B U A n c L) (hB : B' ≤ B) : RowsP w B' U A n c L := by
  obtain ⟨h1, vs, h2, h3, h4⟩ := h
  refine ⟨h1, vs, h2.mono hB, h3, fun i hi => ?_⟩
  obtain ⟨v, h5, h6⟩ := h4 i hi
  exact ⟨v, h5, h6.mono fun k hk => ⟨by have := hk.1; omega, hk.2⟩⟩
theorem RowsP.keep {S : Nat → Prop} (h : RowsP w B U A n c L) (hU : U ≤ w.heap.size) (hg : Grew S w w') (hS : ∀ k, k < U → ¬ S k) : RowsP w' B U A n c L := by
  obtain ⟨h1, vs, h2, h3, h4⟩ := h
  refine ⟨h1, vs, h2.grew hg fun ad e => hS _ (h3 ad e), h3, fun i hi => ?_⟩
  obtain ⟨v, h5, h6⟩ := h4 i hi
  exact ⟨v, h5, h6.keep fun k hk => hg.block k (by have := hk.2.1; omega) (hS k hk.2.1)⟩
theorem RowsP.new (h : RowsP w B U A n c L) (hU : U ≤ w.heap.size) (hb : Below w.heap.size w w') : RowsP w' B U A n c L := h.keep hU (Grew.of_new (S := fun _ => False) hb) fun _ _ h => h
/-- Row i, as it is read: of m bytes. -/
theorem RowsP.row (h : RowsP w B U A n c L) {i m : Nat} (hi : i < n) (hm : (L.getD i []).length = m) (h0 : 0 < m) :
    ∃ g o g' o' c', A = some ⟨g, o, none⟩ ∧ g < U ∧ w.cell? ⟨g, o + i, none⟩ = some (.slice (some ⟨g', o', none⟩) m c') ∧ g' < U ∧ B ≤ g' ∧ m ≤ c' ∧ Reads w U 1 (some ⟨g', o', none⟩) m (bv (L.getD i [])) := by
  obtain ⟨h1, vs, h2, h3, h4⟩ := h
  obtain ⟨v, h5, A', n', c', rfl, h6, hnc, _, h7⟩ := h4 i (by omega)
  have e : L.getD i [] = L[i]'(by omega) := by simp [List.getD_eq_getElem?_getD, List.getElem?_eq_getElem (show i < L.length by omega)]
  rw [e] at hm ⊢
  obtain ⟨b, o', rfl, hb, hc⟩ := h7 (by omega)
  obtain ⟨g, o, hA⟩ : ∃ g o, A = some ⟨g, o, none⟩ := by
    cases A with
    | none => have := h2.2.2.2.1 rfl; have := h2.2.1; omega
    | some ad => obtain ⟨g, o, rfl, _⟩ := h2.2.2.2.2 _ rfl; exact ⟨g, o, rfl⟩
  subst hA
  refine ⟨g, o, b, o', c', rfl, h3 _ rfl, ?_, hb.2.1, hb.1, by omega, by rw [length_bv]; omega, fun _ => ⟨b, o', rfl, hb.2.1, hc⟩⟩
  have := h2.cell (j := i) h5
  rw [this]
  congr 2
  omega
/-- Behind an append of a new row. -/
theorem RowsP.snoc {wr w2 : World} {A2 : Option Addr} {c2 : Nat} {vs : List Value} {l : List UInt8} {v : Value} (_hUw : U ≤ wr.heap.size) (h1 : L.length = n) (h3 : ∀ ad, A = some ad → ad.block < U) (hBA : ∀ ad, A = some ad → B ≤ ad.block)
    (h4 : ∀ i (h : i < L.length), ∃ v, vs[i]? = some v ∧ Part wr (fun k => B ≤ k ∧ k < U ∧ ∀ ad, A = some ad → k ≠ ad.block) v L[i]) (hvs : vs.length = n)
    (hv : Part wr (fun k => B ≤ k ∧ U ≤ k ∧ k < wr.heap.size) v l) (hrow : Row w2 B 1 A2 (n + 1) c2 (vs ++ [v])) (hgr : wr.grownBy w2 (A.map (·.block))) (hat : A2 = A ∨ ∃ ad, A2 = some ad ∧ wr.heap.size ≤ ad.block) : RowsP w2 B w2.heap.size A2 (n + 1) c2 (L ++ [l]) := by
  have hs := hgr.size
  have key : ∀ k, k < wr.heap.size → (∀ ad, A = some ad → k ≠ ad.block) → w2.heap[k]? = wr.heap[k]? := fun k hk hne => hgr.block k hk (fun e => by
    cases A with
    | none => cases e
    | some ad => simp at e; exact hne ad rfl e)
  have far : ∀ k, k < wr.heap.size → (∀ ad, A = some ad → k ≠ ad.block) → ∀ ad, A2 = some ad → k ≠ ad.block := fun k hk hne ad e => by
    rcases hat with h | ⟨ad', h, h'⟩
    · rw [h] at e; exact hne ad e
    · rw [h] at e; cases e; omega
  refine ⟨by simp [h1], vs ++ [v], hrow, fun ad e => (hrow.lt ad e).2, fun i hi => ?_⟩
  rw [List.length_append, List.length_singleton] at hi
  by_cases hin : i < L.length
  · obtain ⟨u, h5, h6⟩ := h4 i hin
    refine ⟨u, by rw [List.getElem?_append_left (by omega)]; exact h5, ?_⟩
    rw [List.getElem_append_left hin]
    exact (h6.keep fun k hk => key k (by have := hk.2.1; omega) hk.2.2).mono fun k hk => ⟨hk.1, by have := hk.2.1; omega, far k (by have := hk.2.1; omega) hk.2.2⟩
  · have hi2 : i = L.length := by omega
    refine ⟨v, by rw [hi2, h1, ← hvs]; simp, ?_⟩
    have e : (L ++ [l])[i]'(by simp; omega) = l := by subst hi2; simp
    rw [e]
    have hne : ∀ k, U ≤ k → ∀ ad, A = some ad → k ≠ ad.block := fun k hk ad e => by have := h3 ad e; omega
    exact (hv.keep fun k hk => key k hk.2.2 (hne k hk.2.1)).mono fun k hk => ⟨hk.1, by have := hk.2.2; omega, far k hk.2.2 (hne k hk.2.1)⟩
end
end Go.Proofs.YtiijjpjkfiookaaGreatDoor
