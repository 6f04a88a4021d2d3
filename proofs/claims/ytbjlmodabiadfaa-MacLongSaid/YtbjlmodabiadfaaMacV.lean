/- The digest's and the tag's contracts, by values (for XFacts). -/
import Derived.Test.YtbjlmodabiadfaaFacts2
import Derived.Test.YtbjlmodabiadfaaMacSmall
namespace Go.Proofs.Ytbjlmodabiadfaa
open Go.RowKit

/-- The call hands back bytes; nothing old has turned. -/
def OutV (l : List UInt8) (w : World) (e : Ending) (w' : World) : Prop := ∃ v, e = .returned v ∧ BytesV l v w' ∧ Grows w w'
theorem outV {l : List UInt8} {w : World} {e : Ending} {w' : World} (h : RowOut l w e w') : OutV l w e w' := by
  obtain ⟨A, c, rfl, hr, hb⟩ := h
  exact ⟨_, rfl, .of_row hr, hb⟩
theorem sSum_v (L : List (List UInt8)) (v : Value) (w : World) (h : ListV L v w) (hlen : L.length ≤ 140737488351232) (hsum : L.flatten.length ≤ 1152921504606846976) : Calls Try.prog 24 #[v] w (OutV (Sha.sum L.flatten) w) := by
  obtain ⟨A, c, B, rfl, hB, hp⟩ := h
  exact (sSum_any L A c _ w hp (fun k hk => by omega) hlen hsum).mono fun _ _ => outV
theorem Mac_v (key : List UInt8) (L : List (List UInt8)) (k v : Value) (w : World) (hk : BytesV key k w) (h : ListV L v w) (hkl : key.length ≤ 140737488351232) (hlen : L.length ≤ 140737488351232) (hsum : L.flatten.length ≤ 576460752303423488) :
    Calls Try.prog 18 #[k, v] w (OutV (macB key L.flatten) w) := by
  obtain ⟨A, c, B, rfl, hB, hp⟩ := h
  obtain ⟨A2, n, c2, B2, rfl, hl, _, hB2, hr⟩ := hk
  exact (Mac_any key L A2 n c2 B2 A c _ w hr hB2 (by omega) hp (fun k hk => by omega) hlen hsum).mono fun _ _ => outV
end Go.Proofs.Ytbjlmodabiadfaa
