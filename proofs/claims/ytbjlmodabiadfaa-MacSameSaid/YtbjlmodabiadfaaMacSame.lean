/- THE WALK of the law MacSame. -/
import Derived.Test.YtbjlmodabiadfaaMacSmall
import Derived.Test.YtbjlmodabiadfaaOwned
namespace Go.Proofs.Ytbjlmodabiadfaa
open Go.RowKit

theorem Row.head {w : World} {base n : Nat} {A : Option Addr} {l : List UInt8} (h : Row w base 1 A (n + 1) (n + 1) (bv (l ++ [77]))) (hl : l.length = n) : Row w base 1 A n (n + 1) (bv l) := by
  have := h.take (k := n) (by omega)
  rw [Nat.mul_one, bv_append, List.take_append_of_le_length (by rw [length_bv]; omega), List.take_of_length_le (by rw [length_bv]; omega)] at this
  exact this

set_option maxRecDepth 100000 in
set_option maxHeartbeats 4000000 in
theorem MacSame_walk (A : Option Addr) (n c : Nat) (a : List UInt8) (A2 : Option Addr) (n2 c2 : Nat) (b : List UInt8) (w : World) (h1 : Reads w w.heap.size 1 A n (bv a)) (h1c : n ≤ c ∧ c ≤ 140737488351232) (h2 : Reads w w.heap.size 1 A2 n2 (bv b)) (h2c : n2 ≤ c2 ∧ c2 ≤ 140737488351232) :
    Calls Try.prog 4 #[.slice A n c, .slice A2 n2 c2] w fun e w' => e = .returned (.bool true) ∧ Below w.heap.size w w' := by
  have hkl : a.length = n := by have := h1.1; rw [length_bv] at this; omega
  have hbl : b.length = n2 := by have := h2.1; rw [length_bv] at this; omega
  have hs := Lib.hid (small06_any w)
  have HKL := Lib.hid hkl
  have HBL := Lib.hid hbl
  obtain ⟨h1c, h1c'⟩ := h1c
  obtain ⟨h2c, h2c'⟩ := h2c
  clear hkl hbl
  go_enter Try.func4, Try.ntmps4
  go_wp2_with fail
  refine hs.out.mono ?_
  rintro e w1 ⟨rfl, hb1⟩
  go_wp2_with fail
  refine (Lent_any A n c _ a w1 (h1.below hb1) hb1.size (by omega)).mono ?_
  rintro e w2 ⟨rfl, hx2, hb2⟩
  have hb12 := thenB hb1 hb2
  go_wp2_with fail
  refine (Lent_any A2 n2 c2 _ b w2 (h2.below hb12) hb12.size (by omega)).mono ?_
  rintro e w3 ⟨rfl, hy3, hb3⟩
  have hb13 := thenB hb12 hb3
  have hx3 := hx2.below hb3 (Nat.le_refl _)
  go_wp2_with fail
  refine (Same_any _ _ n n2 _ _ _ _ a b w3 (Row.head hx3 HKL.out).reads (Row.head hy3 HBL.out).reads (by omega)).mono ?_
  rintro e w4 ⟨rfl, q, rfl⟩
  go_wp2_with fail
  refine (Kept_yes A n c _ _ _ a _ (hx3.reads.drewN q) ((h1.below hb13).drewN q) (by omega)).mono ?_
  rintro e w5 ⟨rfl, rfl⟩
  go_wp2_with fail
  refine (Kept_yes A2 n2 c2 _ _ _ b _ (hy3.reads.drewN q) ((h2.below hb13).drewN q) (by omega)).mono ?_
  rintro e w5 ⟨rfl, rfl⟩
  have hcv1 := run_conv_bytes (P := Try.prog) Try.underlying22 Try.underlying5 Try.underlying9 (cap := c) ((h1.below hb13).drewN q)
  have hcv2 := run_conv_bytes (P := Try.prog) Try.underlying22 Try.underlying5 Try.underlying9 (cap := c2) ((h2.below hb13).drewN q)
  have HB := Lib.hid hb13
  clear h1 h2 hx2 hx3 hy3 hb1 hb2 hb3 hb12 hb13
  go_wp2_with fail
  go_ret
  exact ⟨rfl, below_drewN HB.out q⟩
end Go.Proofs.Ytbjlmodabiadfaa
