/- The digest's and the tag's contracts, by values (for XFacts). -/
import Derived.Test.YtbjlmodabiadfaaGMem
import Derived.Test.YtbjlmodabiadfaaHMacSmall
namespace Go.Proofs.Ytbjlmodabiadfaa
open Go.RowKit

/-- The call hands back bytes; nothing old has turned. -/
def OutV (l : List UInt8) (w : World) (e : Ending) (w' : World) : Prop := ∃ v, e = .returned v ∧ BytesV l v w' ∧ Grows w w'
theorem outV {l : List UInt8} {w : World} {e : Ending} {w' : World} (h : RowOut l w e w') : OutV l w e w' := by
  obtain ⟨A, c, rfl, hr, hb⟩ := h
  exact ⟨_, rfl, .of_row hr, hb⟩
theorem sSum_v (L : List (List UInt8)) (v : Value) (w : World) (h : ListV L v w) (hlen : L.length ≤ 140737488351232) (hsum : L.flatten.length ≤ 1152921504606846976) : Calls Try.prog 24 #[v] w (OutV (Sha.sum L.flatten) w) := by
  obtain ⟨A, c, B, rfl, hB, hp⟩ := h
  exact (sSum_any L A c _ w hp (fun k hk => by omega) hlen hsum).mono fun _ _ => outV
theorem Mac_v (key : List UInt8) (L : List (List UInt8)) (k v : Value) (w : World) (hk : BytesV key k w) (h : ListV L v w) (hkl : key.length ≤ 140737488351232) (hlen : L.length ≤ 140737488351232) (hsum : L.flatten.length ≤ 576460752303423488) :
    Calls Try.prog 18 #[k, v] w (OutV (macB key L.flatten) w) := by
  obtain ⟨A, c, B, rfl, hB, hp⟩ := h
  obtain ⟨A2, n, c2, B2, rfl, hl, _, hB2, hr⟩ := hk
  exact (Mac_any key L A2 n c2 B2 A c _ w hr hB2 (by omega) hp (fun k hk => by omega) hlen hsum).mono fun _ _ => outV

/-- The value lists these strings. -/
def StrsV (L : List ByteArray) (v : Value) (w : World) : Prop := ∃ A c B, v = .slice A L.length c ∧ L.length ≤ c ∧ B ≤ w.heap.size ∧ Strs w (· < B) A L
theorem StrsV.grows {L : List ByteArray} {v : Value} {w w' : World} (h : StrsV L v w) (g : Grows w w') : StrsV L v w' := by
  obtain ⟨A, c, B, e, hc, hB, hp⟩ := h
  exact ⟨A, c, B, e, hc, Nat.le_trans hB g.size, hp.keep fun k hk => g.block k (by omega)⟩
theorem st_strs (L : List ByteArray) : Stable (StrsV L) := fun _ _ _ h g => h.grows g
theorem Strs.take {w : World} {R : Nat → Prop} {A : Option Addr} {L : List ByteArray} (h : Strs w R A L) (k : Nat) : Strs w R A (L.take k) := fun hn => by
  obtain ⟨b, o, e, hR, hc⟩ := h (by simp at hn; omega)
  exact ⟨b, o, e, hR, fun i hi => by rw [List.getElem_take]; exact hc i (by simp at hi; omega)⟩
theorem Strs.drop {w : World} {R : Nat → Prop} {A : Option Addr} {L : List ByteArray} (h : Strs w R A L) {k cap : Nat} (hc : L.length ≤ cap) : Strs w R (if cap = k then A else A.map (·.add (k * 1))) (L.drop k) := fun hn => by
  obtain ⟨b, o, rfl, hR, hcell⟩ := h (by simp at hn; omega)
  have hlt : k < L.length := by simp at hn; omega
  rw [if_neg (by omega)]
  refine ⟨b, o + k, by simp [add_plain], hR, fun i hi => ?_⟩
  rw [List.getElem_drop, Nat.add_assoc]
  exact hcell _ (by simp at hi; omega)
theorem StrsV.drew {L : List ByteArray} {v : Value} {w : World} (h : StrsV L v w) : StrsV L v w.drew := h.grows ((Below.refl _ _).drew)
theorem StrsV.head {L : List ByteArray} {A : Option Addr} {n c k : Nat} {w : World} (h : StrsV L (.slice A n c) w) (hk : k ≤ n) : StrsV (L.take k) (.slice A k c) w := by
  obtain ⟨A', c', B, e, hc, hB, hr⟩ := h
  injection e with e1 e2 e3
  subst e1 e2 e3
  have hl : (L.take k).length = k := by simp; omega
  exact ⟨_, _, B, by rw [hl], by omega, hB, hr.take k⟩
theorem StrsV.cut {L : List ByteArray} {A : Option Addr} {n c k : Nat} {w : World} (h : StrsV L (.slice A n c) w) (hk : k ≤ n) : StrsV (L.drop k) (.slice (if c = k then A else A.map (·.add k)) (n - k) (c - k)) w := by
  obtain ⟨A', c', B, e, hc, hB, hr⟩ := h
  injection e with e1 e2 e3
  subst e1 e2 e3
  have hd := hr.drop (k := k) hc
  rw [Nat.mul_one] at hd
  have hl : (L.drop k).length = L.length - k := by simp
  exact ⟨_, _, B, by rw [hl], by omega, hB, hd⟩
theorem StrsV.nil_ (w : World) : StrsV [] (.slice none 0 0) w := ⟨none, 0, 0, rfl, Nat.le_refl _, Nat.zero_le _, fun h => absurd h (by simp)⟩
theorem Fold_v (key : List UInt8) (L : List ByteArray) (k v : Value) (w : World) (hk : BytesV key k w) (h : StrsV L v w) (hkl : key.length ≤ 140737488351232) (hlen : L.length ≤ 140737488351232) (hsz : ∀ s ∈ L, s.size ≤ 140737488351232) :
    Calls Try.prog 25 #[k, v] w (OutV (foldB key (bytesOf L)) w) := by
  obtain ⟨A, c, B, rfl, _, hB, hp⟩ := h
  obtain ⟨A2, n, c2, B2, rfl, hl, _, hB2, hr⟩ := hk
  exact (Fold_any key L A2 n c2 B2 A c _ w hr hB2 (by omega) hp (fun k hk => by omega) hlen hsz).mono fun _ _ => outV
end Go.Proofs.Ytbjlmodabiadfaa
