/- GENERAL: small laws of the walk, over any program. -/
import Derived.WalkKit
import Derived.ProofKit
import Derived.Laws.BytesArg
import Derived.Laws.IdiomStrings
import Derived.WalkLawsBesides
import Derived.WalkSpells
import Derived.Lib.Hide
import Derived.Lib.SmallJoins
namespace Go.Proofs.YtiijjpjkfiookaaDoor
open Go.RowKit

/-- A number as a byte (hidden from the walk). -/
def b8 (n : Int) : UInt8 := UInt8.ofNat n.toNat
theorem b8_toNat {n : Int} (h0 : 0 ≤ n) (h1 : n < 256) : ((b8 n).toNat : Int) = n := by
  unfold b8; rw [UInt8.toNat_ofNat']; omega
theorem b8_nat (c : UInt8) : b8 (c.toNat : Int) = c := by unfold b8; simp
theorem str_snoc (s : ByteArray) (c : UInt8) : (s ++ ⟨#[c]⟩ : ByteArray).data.toList = s.data.toList ++ [c] := by
  rw [Go.Joins.data_append]
/-- 'string([]byte{c})'. -/
theorem run_conv_one {P : Program} {src dst e : TypeId} (hs : P.underlying src = some (.slice e)) (he : P.underlying e = some (.int .u8)) (hd : P.underlying dst = some .string) (w : World) (n : Int) :
    (convert src dst (.slice (some ⟨w.heap.size, 0, none⟩) 1 1)).run P (w.alloc (.cells #[.int .u8 n] e)) = .ok (.string ⟨#[b8 n]⟩) (w.alloc (.cells #[.int .u8 n] e)) := by
  have h := run_convert_bytes_arg (P := P) (w.alloc (.cells #[.int .u8 n] e)) src e hs he w.heap.size 0 1 1 [n] rfl (by
    intro i hi
    have : i = 0 := by omega
    subst this
    simp) dst hd
  exact h
end Go.Proofs.YtiijjpjkfiookaaDoor
