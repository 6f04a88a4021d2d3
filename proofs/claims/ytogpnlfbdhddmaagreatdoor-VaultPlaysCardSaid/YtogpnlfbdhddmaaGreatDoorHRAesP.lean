/- PLAIN: the columns mixed as the reference does it. -/
import Derived.Test.YtogpnlfbdhddmaaGreatDoorHRAes3
namespace Go.Proofs.YtogpnlfbdhddmaaGreatDoor

instance : Std.Associative (α := UInt8) (· ^^^ ·) := ⟨UInt8.xor_assoc⟩
instance : Std.Commutative (α := UInt8) (· ^^^ ·) := ⟨UInt8.xor_comm⟩
theorem xt_bit : ∀ n, n < 256 → xt (UInt8.ofNat n) = (UInt8.ofNat n <<< 1) ^^^ (if n.testBit 7 then 27 else 0) := by decide +kernel
theorem xt_shape (a : UInt8) : xt a = (a <<< 1) ^^^ (if a.toNat.testBit 7 then 27 else 0) := by
  have h := xt_bit a.toNat a.toNat_lt
  rwa [UInt8.ofNat_toNat] at h
theorem xt_xor (a b : UInt8) : xt (a ^^^ b) = xt a ^^^ xt b := by
  rw [xt_shape, xt_shape a, xt_shape b]
  have h : (a ^^^ b).toNat.testBit 7 = (a.toNat.testBit 7 != b.toNat.testBit 7) := by rw [UInt8.toNat_xor, Nat.testBit_xor]
  have hs : (a ^^^ b) <<< 1 = (a <<< 1) ^^^ (b <<< 1) := by
    apply UInt8.toNat_inj.1
    simp only [UInt8.toNat_shiftLeft, UInt8.toNat_xor]
    simp [Nat.shiftLeft_xor_distrib, Nat.xor_mod_two_pow (n := 8)]
  rw [h, hs]
  cases a.toNat.testBit 7 <;> cases b.toNat.testBit 7
  · simp
  · show (a <<< 1 ^^^ b <<< 1) ^^^ (27 : UInt8) = (a <<< 1 ^^^ (0 : UInt8)) ^^^ (b <<< 1 ^^^ (27 : UInt8))
    simp only [UInt8.xor_zero]; ac_rfl
  · show (a <<< 1 ^^^ b <<< 1) ^^^ (27 : UInt8) = (a <<< 1 ^^^ (27 : UInt8)) ^^^ (b <<< 1 ^^^ (0 : UInt8))
    simp only [UInt8.xor_zero]; ac_rfl
  · show (a <<< 1 ^^^ b <<< 1) ^^^ (0 : UInt8) = (a <<< 1 ^^^ (27 : UInt8)) ^^^ (b <<< 1 ^^^ (27 : UInt8))
    rw [show (a <<< 1 ^^^ (27 : UInt8)) ^^^ (b <<< 1 ^^^ (27 : UInt8)) = (a <<< 1 ^^^ b <<< 1) ^^^ ((27 : UInt8) ^^^ 27) by ac_rfl, UInt8.xor_self]
/-- The factor of the byte k places on. -/
def fct (k : Nat) : Nat := if k = 0 then 2 else if k = 1 then 3 else 1
theorem fct_le (k : Nat) : fct k ≤ 3 := by unfold fct; split; omega; split <;> omega
/-- Behind k factors. -/
def mixAt (b : List UInt8) (c r : Nat) : Nat → UInt8
  | 0 => 0
  | k + 1 => mixAt b c r k ^^^ fin3 (fct k) 0 (b.getD (4 * c + (r + k) % 4) 0)
theorem mix_six (x0 x1 x2 x3 p q : UInt8) : ((((0 : UInt8) ^^^ (0 ^^^ p)) ^^^ ((0 ^^^ x1) ^^^ q)) ^^^ (0 ^^^ x2)) ^^^ (0 ^^^ x3) = x0 ^^^ ((((x0 ^^^ x1) ^^^ x2) ^^^ x3) ^^^ (p ^^^ q)) := by
  rw [show x0 ^^^ ((((x0 ^^^ x1) ^^^ x2) ^^^ x3) ^^^ (p ^^^ q)) = (x0 ^^^ x0) ^^^ (((p ^^^ (x1 ^^^ q)) ^^^ x2) ^^^ x3) by ac_rfl, UInt8.xor_self]
  simp only [UInt8.zero_xor]
theorem mixAt_all (b : List UInt8) (c r : Nat) (hr : r < 4) : mixAt b c r 4 = mixB b (4 * c + r) := by
  show ((((0 : UInt8) ^^^ fin3 2 0 _) ^^^ fin3 3 0 _) ^^^ fin3 1 0 _) ^^^ fin3 1 0 _ = _
  unfold mixB
  rw [show (4 * c + r) / 4 = c by omega, show (4 * c + r) % 4 = r by omega, xt_xor]
  have e : r = 0 ∨ r = 1 ∨ r = 2 ∨ r = 3 := by omega
  have z : ∀ n : Nat, 4 * c + (0 + n) % 4 = 4 * c + n % 4 := fun n => by rw [Nat.zero_add]
  rcases e with rfl | rfl | rfl | rfl
  · show ((((0 : UInt8) ^^^ (0 ^^^ xt (b.getD (4 * c) 0))) ^^^ ((0 ^^^ b.getD (4 * c + 1) 0) ^^^ xt (b.getD (4 * c + 1) 0))) ^^^ (0 ^^^ b.getD (4 * c + 2) 0)) ^^^ (0 ^^^ b.getD (4 * c + 3) 0) = b.getD (4 * c) 0 ^^^ ((((b.getD (4 * c) 0 ^^^ b.getD (4 * c + 1) 0) ^^^ b.getD (4 * c + 2) 0) ^^^ b.getD (4 * c + 3) 0) ^^^ (xt (b.getD (4 * c) 0) ^^^ xt (b.getD (4 * c + 1) 0)))
    exact mix_six _ _ _ _ _ _
  · show ((((0 : UInt8) ^^^ (0 ^^^ xt (b.getD (4 * c + 1) 0))) ^^^ ((0 ^^^ b.getD (4 * c + 2) 0) ^^^ xt (b.getD (4 * c + 2) 0))) ^^^ (0 ^^^ b.getD (4 * c + 3) 0)) ^^^ (0 ^^^ b.getD (4 * c) 0) = b.getD (4 * c + 1) 0 ^^^ ((((b.getD (4 * c) 0 ^^^ b.getD (4 * c + 1) 0) ^^^ b.getD (4 * c + 2) 0) ^^^ b.getD (4 * c + 3) 0) ^^^ (xt (b.getD (4 * c + 1) 0) ^^^ xt (b.getD (4 * c + 2) 0)))
    rw [mix_six (b.getD (4 * c + 1) 0)]
    ac_rfl
  · show ((((0 : UInt8) ^^^ (0 ^^^ xt (b.getD (4 * c + 2) 0))) ^^^ ((0 ^^^ b.getD (4 * c + 3) 0) ^^^ xt (b.getD (4 * c + 3) 0))) ^^^ (0 ^^^ b.getD (4 * c) 0)) ^^^ (0 ^^^ b.getD (4 * c + 1) 0) = b.getD (4 * c + 2) 0 ^^^ ((((b.getD (4 * c) 0 ^^^ b.getD (4 * c + 1) 0) ^^^ b.getD (4 * c + 2) 0) ^^^ b.getD (4 * c + 3) 0) ^^^ (xt (b.getD (4 * c + 2) 0) ^^^ xt (b.getD (4 * c + 3) 0)))
    rw [mix_six (b.getD (4 * c + 2) 0)]
    ac_rfl
  · show ((((0 : UInt8) ^^^ (0 ^^^ xt (b.getD (4 * c + 3) 0))) ^^^ ((0 ^^^ b.getD (4 * c) 0) ^^^ xt (b.getD (4 * c) 0))) ^^^ (0 ^^^ b.getD (4 * c + 1) 0)) ^^^ (0 ^^^ b.getD (4 * c + 2) 0) = b.getD (4 * c + 3) 0 ^^^ ((((b.getD (4 * c) 0 ^^^ b.getD (4 * c + 1) 0) ^^^ b.getD (4 * c + 2) 0) ^^^ b.getD (4 * c + 3) 0) ^^^ (xt (b.getD (4 * c + 3) 0) ^^^ xt (b.getD (4 * c) 0)))
    rw [mix_six (b.getD (4 * c + 3) 0)]
    ac_rfl
end Go.Proofs.YtogpnlfbdhddmaaGreatDoor
