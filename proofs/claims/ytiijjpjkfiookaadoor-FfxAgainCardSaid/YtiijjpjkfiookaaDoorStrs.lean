/- GENERAL: strings in a row. -/
import Derived.Test.YtiijjpjkfiookaaDoorGrew
namespace Go.Proofs.YtiijjpjkfiookaaDoor
open Go.RowKit

/-- So many strings in a row, in a block of R. -/
def Strs (w : World) (R : Nat → Prop) (A : Option Addr) (L : List ByteArray) : Prop :=
  0 < L.length → ∃ b o, A = some ⟨b, o, none⟩ ∧ R b ∧ ∀ i (h : i < L.length), w.cell? ⟨b, o + i, none⟩ = some (.string L[i])
section
variable {w w' : World} {R R' : Nat → Prop} {A : Option Addr} {L : List ByteArray}
theorem Strs.keep (h : Strs w R A L) (hk : ∀ k, R k → w'.heap[k]? = w.heap[k]?) : Strs w' R A L := fun hn => by
  obtain ⟨b, o, e, hR, hc⟩ := h hn
  exact ⟨b, o, e, hR, fun i hi => (World.cell?_of_block (a := ⟨b, o + i, none⟩) (hk b hR)).trans (hc i hi)⟩
theorem Strs.mono (h : Strs w R A L) (hk : ∀ k, R k → R' k) : Strs w R' A L := fun hn => by
  obtain ⟨b, o, e, hR, hc⟩ := h hn
  exact ⟨b, o, e, hk b hR, hc⟩
end
end Go.Proofs.YtiijjpjkfiookaaDoor
