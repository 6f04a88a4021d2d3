/- THE WALKS of digits: the text of a number. -/
import Derived.Test.YtnhcabcpdlgdaaaDoorDigPack
namespace Go.Proofs.YtnhcabcpdlgdaaaDoor
open Go.RowKit
theorem ret_str {k : IntKind} {a b : List UInt8} {c d : Int} (h : a = b) (h' : c = d) : Ending.returned (.tuple #[.string ⟨a.toArray⟩, .int k c]) = .returned (.tuple #[.string ⟨b.toArray⟩, .int k d]) := by rw [h, h']
/-- Cell j of the text when k digits have been laid. -/
def txAt (n w k j : Nat) : Nat := if w - k ≤ j ∧ j < w then 48 + n / 10 ^ (w - 1 - j) % 10 else 0
theorem tx_zero (n w j : Nat) : txAt n w 0 j = 0 := by unfold txAt; rw [if_neg (by omega)]
theorem tx_hit (n w k : Nat) (hk : k < w) : txAt n w (k + 1) (w - 1 - k) = 48 + n / 10 ^ k % 10 := by
  unfold txAt; rw [if_pos (by omega), show w - 1 - (w - 1 - k) = k by omega]
theorem tx_other (n w k j : Nat) (_hk : k < w) (hj : j ≠ w - 1 - k) : txAt n w (k + 1) j = txAt n w k j := by
  unfold txAt
  by_cases h : w - k ≤ j ∧ j < w
  · rw [if_pos h, if_pos (by omega)]
  · rw [if_neg h, if_neg (by omega)]
theorem tx_end (n w : Nat) : bv (textD n w) = (List.range w).map fun j => Value.int .u8 (txAt n w w j) := by
  unfold bv textD
  rw [List.map_map]
  refine List.map_congr_left fun j hj => ?_
  have hj' := List.mem_range.1 hj
  simp only [Function.comp]
  unfold txAt
  rw [sg_toNat (by omega), if_pos (by omega)]
end Go.Proofs.YtnhcabcpdlgdaaaDoor
