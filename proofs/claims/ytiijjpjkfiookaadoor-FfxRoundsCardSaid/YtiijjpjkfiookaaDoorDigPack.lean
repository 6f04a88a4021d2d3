/- THE WALKS of digits and of its reference: packing, the text of a number. -/
import Derived.Test.YtiijjpjkfiookaaDoorDigWalk2
import Derived.Test.YtiijjpjkfiookaaDoorMem
import Derived.BigRegion
import Derived.Laws.BitsAllLaws
namespace Go.Proofs.YtiijjpjkfiookaaDoor
open Go.RowKit
theorem u8_info : (Tryd.prog.info? 5).map (fun i => (i.zero, i.size, i.bytes)) = some (some (.int .u8 0), 1, 1) := by kernel_rfl
theorem and15 {c : UInt8} (h : isDig c = true) : bits .and .u8 (c.toNat : Int) 15 = (dg c : Nat) := by
  have := isDig_iff.1 h
  have e := u8_and_nat c.toNat 15 c.toNat_lt (by omega)
  rw [nat_mask4] at e
  rw [show ((15 : Nat) : Int) = 15 from rfl] at e
  rw [e]
  unfold dg
  omega
theorem or_low {a b : Nat} (ha : a ≤ 9) (hb : b ≤ 9) : bits .or .u8 ((a * 16 : Nat) : Int) (b : Int) = ((a * 16 + b : Nat) : Int) := by
  rw [u8_or_nat (a * 16) b (by omega) (by omega), nat_join 4 (a * 16) b (by omega) (by omega)]
theorem or_high {b : Nat} (hb : b ≤ 9) : bits .or .u8 ((0 : Nat) : Int) ((b : Int) * 16 % 256) = ((b * 16 : Nat) : Int) := by
  rw [show (b : Int) * 16 % 256 = ((b * 16 : Nat) : Int) by omega]
  have := u8_or_nat 0 (b * 16) (by omega) (by omega)
  simpa using this

end Go.Proofs.YtiijjpjkfiookaaDoor
