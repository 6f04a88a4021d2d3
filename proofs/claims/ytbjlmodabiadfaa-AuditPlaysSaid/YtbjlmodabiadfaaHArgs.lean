/- GENERAL: a law's arguments, read: slices of bytes. -/
import Derived.Test.YtbjlmodabiadfaaGMem
import Derived.ProofKit
import Derived.SizedLaws
import Derived.ChangeSlices
import Derived.OpenShut
namespace Go.Proofs.Ytbjlmodabiadfaa
open Go.RowKit Go.ChangeShapes Go.WideShapes Go.ChangeAt

theorem bytes_arg {H : Type} {enc : TypeId × Value → H} {P : Program} {W : World} {t e : TypeId} {A : Option Addr} {n c : Nat} {d : DataW H} {p : List MemPlace} {ts : List TypeId} {ds : List (DataW H)}
    (ht : P.underlying t = some (.slice e)) (he : P.underlying e = some (.int .u8)) (hcl : P.cellsOf e = 1) (hby : P.bytesOf e = 1)
    (h : DataW.Trod enc P W 0 (fun _ => true) true t (.slice A n c) d p) (hsz : (DataW.weightsEach P ts ds).all (· ≤ reachBytes) = true) {j : Nat} (hts : ts[j]? = some t) (hds : ds[j]? = some d) :
    ∃ l, Reads W W.heap.size 1 A n (bv l) ∧ (n ≤ c ∧ c ≤ 140737488351232) := by
  obtain ⟨fuel, hf⟩ := h
  rcases open_ints ht he hcl hf with ⟨hcs, hx⟩ | ⟨a, len, cap, zs, hcs, _, hl, hm, hz, hx, hcell, hwz⟩
  · simp [Value.cells] at hcs
    obtain ⟨rfl, rfl, rfl⟩ := hcs
    exact ⟨[], Reads.nil_, Nat.le_refl _, Nat.zero_le _⟩
  · simp [Value.cells] at hcs
    obtain ⟨rfl, rfl, rfl⟩ := hcs
    simp only [Prod.mk.injEq] at hx
    obtain ⟨rfl, _⟩ := hx
    have hs := sized_slice hsz hts hds ht
    rw [hby] at hs
    have hzl : zs.length = c := by simpa using hz
    simp only [lits, List.length_map, List.length_take, List.length_drop, reachBytes, Nat.mul_one] at hs
    have hcc : c ≤ 140737488351232 := by omega
    refine ⟨(zs.take n).map fun z => UInt8.ofNat z.toNat, ⟨by simp [bv]; omega, fun hn => ?_⟩, hl, hcc⟩
    obtain ⟨b, off, spot⟩ := a
    have hc0 := hcell 0 (by omega)
    have hspot : spot = none := by simpa [Addr.add] using World.cell?_spot hc0
    subst hspot
    have hlt : b < W.heap.size := by
      rcases Nat.lt_or_ge b W.heap.size with h' | h'
      · exact h'
      · rw [add_plain] at hc0
        simp only [World.cell?] at hc0
        rw [Array.getElem?_eq_none h'] at hc0
        simp at hc0
    refine ⟨b, off, rfl, hlt, fun i u hu => ?_⟩
    obtain ⟨hi, hv⟩ := List.getElem?_eq_some_iff.1 hu
    simp only [bv, List.length_map, List.length_take] at hi
    have hc := hcell i (by omega)
    rw [add_plain] at hc
    rw [hc, ← hv]
    have hwf := hwz (zs[i]'(by omega)) (List.getElem_mem _)
    have hb : 0 ≤ zs[i]'(by omega) ∧ zs[i]'(by omega) ≤ 255 := by
      exact bounds_u8 hwf
    simp only [bv, List.getElem_map, List.getElem_take, UInt8.toNat_ofNat', List.getD_eq_getElem?_getD, List.getElem?_eq_getElem (show i < zs.length by omega), Option.getD_some]
    congr 2
    omega
end Go.Proofs.Ytbjlmodabiadfaa
