/- The law VaultPlays: the acts in memory; both vaults and the made tokens, beside one another. -/
import Derived.Test.YtogpnlfbdhddmaaGreatDoorHRVau2
import Derived.Test.YtogpnlfbdhddmaaGreatDoorHOwned2
namespace Go.Proofs.YtogpnlfbdhddmaaGreatDoor
open Go.RowKit

/-- An act. -/
structure VAct where
  kind : Int
  num : Int
  text : ByteArray
instance : Inhabited VAct := ⟨⟨0, 0, ByteArray.empty⟩⟩
/-- So many acts in a row. -/
def Acts (w : World) (A : Option Addr) (L : List VAct) : Prop :=
  0 < L.length → ∃ b o, A = some ⟨b, o, none⟩ ∧ b < w.heap.size ∧ ∀ i (h : i < L.length), w.cell? ⟨b, o + i * 3, none⟩ = some (.int .i64 L[i].kind) ∧ w.cell? ⟨b, o + i * 3 + 1, none⟩ = some (.int .i64 L[i].num) ∧ w.cell? ⟨b, o + i * 3 + 2, none⟩ = some (.string L[i].text)
theorem Acts.new {w w' : World} {A : Option Addr} {L : List VAct} (h : Acts w A L) (hb : Below w.heap.size w w') : Acts w' A L := fun hn => by
  obtain ⟨b, o, e, hlt, hc⟩ := h hn
  have hs := hb.size
  have hk : ∀ j, w'.cell? ⟨b, j, none⟩ = w.cell? ⟨b, j, none⟩ := fun j => (Grew.of_new (S := fun _ => False) hb).cell (a := ⟨b, j, none⟩) hlt (fun h => h)
  exact ⟨b, o, e, by omega, fun i hi => by obtain ⟨c0, c1, c2⟩ := hc i hi; exact ⟨(hk _).trans c0, (hk _).trans c1, (hk _).trans c2⟩⟩

/-- Both vaults and the made tokens: vb is the program's vault (its blocks: X), [B, U) holds the reference's, the row of tokens lies behind it. -/
def PW (w : World) (vb xb B U : Nat) (m : List UInt8) (t : Nat) (X : Nat → Prop) (nv nr : Nat) (A : Option Addr) (c : Nat) (Y : List ByteArray) (wr : World) : Prop :=
  VauAt wr vb X m t nv ∧ RVauAt wr xb B U m t nr ∧ Row wr U 1 A Y.length c (Y.map Value.string) ∧ (∀ k, X k → w.heap.size ≤ k ∧ k < wr.heap.size ∧ ¬ (B ≤ k ∧ k < U)) ∧ (∀ ad, A = some ad → ¬ X ad.block) ∧ w.heap.size ≤ vb ∧ vb < B ∧ Below w.heap.size w wr
section
variable {w wr w' : World} {vb xb B U t nv nr nv' nr' c : Nat} {m : List UInt8} {X : Nat → Prop} {A : Option Addr} {Y : List ByteArray}
theorem PW.size (h : PW w vb xb B U m t X nv nr A c Y wr) : w.heap.size ≤ vb ∧ vb < B ∧ B ≤ xb ∧ xb < U ∧ U ≤ wr.heap.size := ⟨h.2.2.2.2.2.1, h.2.2.2.2.2.2.1, h.2.1.2.1, h.2.1.2.2.1, h.2.1.1⟩
theorem PW.new (h : PW w vb xb B U m t X nv nr A c Y wr) (hb : Below wr.heap.size wr w') : PW w vb xb B U m t X nv nr A c Y w' := by
  obtain ⟨h1, h2, h3, h4, h5, h6, h7, h8⟩ := h
  have hs := hb.size
  exact ⟨h1.new hb, h2.new hb, h3.grew (S := fun _ => False) (Grew.of_new hb) (fun _ _ h => h), fun k hk => by have := h4 k hk; exact ⟨this.1, by omega, this.2.2⟩, h5, h6, h7, h8.trans (hb.mono h8.size)⟩
theorem PW.vau (h : PW w vb xb B U m t X nv nr A c Y wr) (ho : VauOut vb X m t nv' wr w') : ∃ X2, PW w vb xb B U m t X2 nv' nr A c Y w' := by
  obtain ⟨h1, h2, h3, h4, h5, h6, h7, h8⟩ := h
  obtain ⟨X2, k1, k2, k3⟩ := ho
  have hs := k3.size
  have hU := h2.1
  have hx1 := h2.2.1
  have hx2 := h2.2.2.1
  have hs0 := h8.size
  refine ⟨fun k => X2 k ∧ k < w'.heap.size, k2.within, h2.keep k3 fun k hk1 hk2 hx => ?_, h3.grew k3 fun ad e hx => ?_, fun k hk => ?_, fun ad e hx => ?_, h6, h7, h8.trans (k3.below hs0 fun k hk hx => ?_)⟩
  · rcases hx with rfl | hx
    · omega
    · exact (h4 k hx).2.2 ⟨hk1, hk2⟩
  · rcases hx with hx | hx
    · have := (h3.lt ad e).1; omega
    · exact h5 ad e hx
  · rcases k1 k hk.1 with hx | hx
    · have := h4 k hx.1; exact ⟨this.1, hk.2, this.2.2⟩
    · exact ⟨by omega, hk.2, fun h => by omega⟩
  · rcases k1 _ hx.1 with hy | hy
    · exact h5 ad e hy.1
    · have := (h3.lt ad e).2; omega
  · rcases hx with rfl | hx
    · exact h6
    · exact (h4 k hx).1
theorem PW.rotV (h : PW w vb xb B U m t X nv nr A c Y wr) (hv : VauAt w' vb X m t nv') (hg : Grew (· = vb) wr w') : PW w vb xb B U m t X nv' nr A c Y w' := by
  obtain ⟨h1, h2, h3, h4, h5, h6, h7, h8⟩ := h
  have hs := hg.size
  have hs0 := h8.size
  refine ⟨hv, h2.keep hg fun k hk1 _ hx => ?_, h3.grew hg fun ad e hx => ?_, fun k hk => by have := h4 k hk; exact ⟨this.1, by omega, this.2.2⟩, h5, h6, h7, h8.trans (hg.below hs0 fun k _ hx => ?_)⟩
  · have hx : k = vb := hx; omega
  · have hx : ad.block = vb := hx; have := (h3.lt ad e).1; have := h2.2.1; have := h2.2.2.1; omega
  · have hx : k = vb := hx; omega
theorem PW.rotR (h : PW w vb xb B U m t X nv nr A c Y wr) (hv : RVauAt w' xb B U m t nr') (hg : Grew (· = xb) wr w') : PW w vb xb B U m t X nv nr' A c Y w' := by
  obtain ⟨h1, h2, h3, h4, h5, h6, h7, h8⟩ := h
  have hs := hg.size
  have hs0 := h8.size
  have hx1 := h2.2.1
  have hx2 := h2.2.2.1
  refine ⟨h1.grew hg (fun hx => by have hx : vb = xb := hx; omega) (fun k hk hx => ?_), hv, h3.grew hg fun ad e hx => ?_, fun k hk => by have := h4 k hk; exact ⟨this.1, by omega, this.2.2⟩, h5, h6, h7, h8.trans (hg.below hs0 fun k _ hx => ?_)⟩
  · have hx : k = xb := hx; exact (h4 k hk).2.2 ⟨by omega, by omega⟩
  · have hx : ad.block = xb := hx; have := (h3.lt ad e).1; omega
  · have hx : k = xb := hx; omega
theorem PW.push {A2 : Option Addr} {c2 : Nat} {u : ByteArray} (h : PW w vb xb B U m t X nv nr A c Y wr) (hr : Row w' U 1 A2 (Y.length + 1) c2 (Y.map Value.string ++ [Value.string u])) (hg : wr.grownBy w' (A.map (·.block))) (ha : A2 = A ∨ ∃ ad, A2 = some ad ∧ wr.heap.size ≤ ad.block) :
    PW w vb xb B U m t X nv nr A2 c2 (Y ++ [u]) w' := by
  obtain ⟨h1, h2, h3, h4, h5, h6, h7, h8⟩ := h
  have hg2 : Grew (fun k => ∃ ad, A = some ad ∧ ad.block = k) wr w' := Grew.of_grown hg fun k e _ => by
    cases A with
    | none => cases e
    | some ad => exact ⟨ad, rfl, by simpa using e⟩
  have hs := hg2.size
  have hs0 := h8.size
  have hx1 := h2.2.1
  have hx2 := h2.2.2.1
  refine ⟨h1.grew hg2 (fun ⟨ad, e, hx⟩ => ?_) (fun k hk ⟨ad, e, hx⟩ => ?_), h2.keep hg2 fun k _ hk ⟨ad, e, hx⟩ => ?_, by rw [List.length_append, List.map_append]; exact hr, fun k hk => by have := h4 k hk; exact ⟨this.1, by omega, this.2.2⟩, fun ad e hx => ?_, h6, h7, h8.trans (hg2.below hs0 fun k _ ⟨ad, e, hx⟩ => ?_)⟩
  · have := (h3.lt ad e).1; omega
  · exact h5 ad e (by rw [hx]; exact hk)
  · have := (h3.lt ad e).1; omega
  · rcases ha with rfl | ⟨ad2, rfl, hk⟩
    · exact h5 ad e hx
    · cases e; have := h4 _ hx; omega
  · have := (h3.lt ad e).1; omega
end
end Go.Proofs.YtogpnlfbdhddmaaGreatDoor
