/- The reference's round keys: words of a key in plain Lean; rows of rows of bytes in memory. -/
import Derived.Test.YtogpnlfbdhddmaaGreatDoorHRAes5
namespace Go.Proofs.YtogpnlfbdhddmaaGreatDoor
open Go.RowKit

/-! ### words -/
theorem kexp_pre (key : List UInt8) (k : Nat) : ∀ d, ∃ r, kexp key (k + d) = kexp key k ++ r
  | 0 => ⟨[], by simp⟩
  | d + 1 => by
    obtain ⟨r, hr⟩ := kexp_pre key k d
    have h : ∀ z, kexp key (z + 1) = kexp key z ++ xorL (tword (key.length / 4) (key.length / 4 + z) (((kexp key z).drop (4 * (key.length / 4 + z) - 4)).take 4)) (((kexp key z).drop (4 * z)).take 4) := fun _ => rfl
    rw [show k + (d + 1) = (k + d) + 1 by omega, h (k + d), hr, List.append_assoc]
    exact ⟨_, rfl⟩
theorem take_pre {a r : List UInt8} {m : Nat} (h : m + 4 ≤ a.length) : ((a ++ r).drop m).take 4 = (a.drop m).take 4 := by
  rw [List.drop_append_of_le_length (by omega), List.take_append_of_le_length (by rw [List.length_drop]; omega)]
/-- Word j of a key. -/
def wordK (key : List UInt8) (j : Nat) : List UInt8 := ((kexp key (3 * (key.length / 4) + 28)).drop (4 * j)).take 4
section
variable {key : List UInt8} (hk : key.length = 16 ∨ key.length = 32)
include hk
theorem word_in {k j : Nat} (h : k ≤ 3 * (key.length / 4) + 28) (hj : j < key.length / 4 + k) : wordK key j = ((kexp key k).drop (4 * j)).take 4 := by
  obtain ⟨r, hr⟩ := kexp_pre key k (3 * (key.length / 4) + 28 - k)
  unfold wordK
  rw [show 3 * (key.length / 4) + 28 = k + (3 * (key.length / 4) + 28 - k) by omega, hr, take_pre (by rw [length_kexp key hk]; omega)]
theorem word_key {j : Nat} (hj : j < key.length / 4) : wordK key j = (key.drop (4 * j)).take 4 := word_in hk (k := 0) (by omega) (by omega)
theorem length_wordK {j : Nat} (hj : j < 4 * (key.length / 4 + 7)) : (wordK key j).length = 4 := by
  unfold wordK; rw [List.length_take, List.length_drop, length_kexp key hk]; omega
theorem word_next {i : Nat} (h1 : key.length / 4 ≤ i) (h2 : i < 4 * (key.length / 4 + 7)) : wordK key i = xorL (tword (key.length / 4) i (wordK key (i - 1))) (wordK key (i - key.length / 4)) := by
  obtain ⟨k, hk2⟩ : ∃ k, k = i - key.length / 4 := ⟨_, rfl⟩
  have hi : i = key.length / 4 + k := by omega
  rw [word_in hk (k := k + 1) (by omega) (by omega), word_in hk (j := i - 1) (k := k) (by omega) (by omega), word_in hk (j := i - key.length / 4) (k := k) (by omega) (by omega)]
  have hl := length_kexp key hk k
  show ((kexp key k ++ xorL (tword (key.length / 4) (key.length / 4 + k) (((kexp key k).drop (4 * (key.length / 4 + k) - 4)).take 4)) (((kexp key k).drop (4 * k)).take 4)).drop (4 * i)).take 4 = _
  rw [← hi, show 4 * i - 4 = 4 * (i - 1) by omega, show i - key.length / 4 = k by omega]
  have hxl : (xorL (tword (key.length / 4) i (((kexp key k).drop (4 * (i - 1))).take 4)) (((kexp key k).drop (4 * k)).take 4)).length = 4 := by
    rw [length_xorL, length_tword _ _ (by rw [List.length_take, List.length_drop, hl]; omega), List.length_take, List.length_drop, hl]; omega
  generalize xorL (tword (key.length / 4) i (((kexp key k).drop (4 * (i - 1))).take 4)) (((kexp key k).drop (4 * k)).take 4) = z at hxl ⊢
  rw [show 4 * i = (kexp key k).length by rw [hl]; omega, List.drop_left, List.take_of_length_le (by omega)]
theorem rks_words {r : Nat} (h : r < key.length / 4 + 7) : (rksOf key).getD r [] = wordK key (4 * r) ++ wordK key (4 * r + 1) ++ wordK key (4 * r + 2) ++ wordK key (4 * r + 3) := by
  rw [rks_at key h]
  unfold wordK
  have hl := length_kexp key hk (3 * (key.length / 4) + 28)
  generalize kexp key (3 * (key.length / 4) + 28) = z at hl ⊢
  have t : ∀ (l : List UInt8) (m n : Nat), (l.drop m).take (4 + n) = (l.drop m).take 4 ++ (l.drop (m + 4)).take n := fun l m n => by rw [List.take_add, List.drop_drop]
  rw [show (16 : Nat) = 4 + (4 + (4 + 4)) by rfl, t, t, t, show (4 + (4 + (4 + 4))) * r = 4 * (4 * r) by omega, show 4 * (4 * r) + 4 = 4 * (4 * r + 1) by omega, show 4 * (4 * r + 1) + 4 = 4 * (4 * r + 2) by omega, show 4 * (4 * r + 2) + 4 = 4 * (4 * r + 3) by omega]
  simp only [List.append_assoc]
end
/-! ### rows of rows -/
/-- A row of the call's own of rows of bytes; they lie in other blocks, all below U. -/
def RowsP (w : World) (B U : Nat) (A : Option Addr) (n c : Nat) (L : List (List UInt8)) : Prop :=
  L.length = n ∧ ∃ vs : List Value, Row w B 1 A n c vs ∧ (∀ ad, A = some ad → ad.block < U) ∧ ∀ i (h : i < L.length), ∃ v, vs[i]? = some v ∧ Part w (fun k => B ≤ k ∧ k < U ∧ ∀ ad, A = some ad → k ≠ ad.block) v L[i]
section
variable {w w' : World} {B B' U U' n c : Nat} {A : Option Addr} {L : List (List UInt8)}
theorem RowsP.nil_ (w : World) (B U : Nat) : RowsP w B U none 0 0 [] := ⟨rfl, [], Row.nil_ _ _ _, (fun _ h => by cases h), fun i h => absurd h (by simp)⟩
theorem RowsP.mono (h : RowsP w B U A n c L) (hU : U ≤ U') : RowsP w B U' A n c L := by
  obtain ⟨h1, vs, h2, h3, h4⟩ := h
  refine ⟨h1, vs, h2, fun ad e => Nat.lt_of_lt_of_le (h3 ad e) hU, fun i hi => ?_⟩
  obtain ⟨v, h5, h6⟩ := h4 i hi
  exact ⟨v, h5, h6.mono fun k hk => ⟨hk.1, by have := hk.2.1; omega, hk.2.2⟩⟩
theorem RowsP.low (h : RowsP w B U A n c L) (hB : B' ≤ B) : RowsP w B' U A n c L := by
  obtain ⟨h1, vs, h2, h3, h4⟩ := h
  refine ⟨h1, vs, h2.mono hB, h3, fun i hi => ?_⟩
  obtain ⟨v, h5, h6⟩ := h4 i hi
  exact ⟨v, h5, h6.mono fun k hk => ⟨by have := hk.1; omega, hk.2⟩⟩
theorem RowsP.keep {S : Nat → Prop} (h : RowsP w B U A n c L) (hU : U ≤ w.heap.size) (hg : Grew S w w') (hS : ∀ k, k < U → ¬ S k) : RowsP w' B U A n c L := by
  obtain ⟨h1, vs, h2, h3, h4⟩ := h
  refine ⟨h1, vs, h2.grew hg fun ad e => hS _ (h3 ad e), h3, fun i hi => ?_⟩
  obtain ⟨v, h5, h6⟩ := h4 i hi
  exact ⟨v, h5, h6.keep fun k hk => hg.block k (by have := hk.2.1; omega) (hS k hk.2.1)⟩
theorem RowsP.new (h : RowsP w B U A n c L) (hU : U ≤ w.heap.size) (hb : Below w.heap.size w w') : RowsP w' B U A n c L := h.keep hU (Grew.of_new (S := fun _ => False) hb) fun _ _ h => h
/-- Row i, as it is read: of m bytes. -/
theorem RowsP.row (h : RowsP w B U A n c L) {i m : Nat} (hi : i < n) (hm : (L.getD i []).length = m) (h0 : 0 < m) :
    ∃ g o g' o' c', A = some ⟨g, o, none⟩ ∧ g < U ∧ w.cell? ⟨g, o + i, none⟩ = some (.slice (some ⟨g', o', none⟩) m c') ∧ g' < U ∧ B ≤ g' ∧ m ≤ c' ∧ Reads w U 1 (some ⟨g', o', none⟩) m (bv (L.getD i [])) := by
  obtain ⟨h1, vs, h2, h3, h4⟩ := h
  obtain ⟨v, h5, A', n', c', rfl, h6, hnc, _, h7⟩ := h4 i (by omega)
  have e : L.getD i [] = L[i]'(by omega) := by simp [List.getD_eq_getElem?_getD, List.getElem?_eq_getElem (show i < L.length by omega)]
  rw [e] at hm ⊢
  obtain ⟨b, o', rfl, hb, hc⟩ := h7 (by omega)
  obtain ⟨g, o, hA⟩ : ∃ g o, A = some ⟨g, o, none⟩ := by
    cases A with
    | none => have := h2.2.2.2.1 rfl; have := h2.2.1; omega
    | some ad => obtain ⟨g, o, rfl, _⟩ := h2.2.2.2.2 _ rfl; exact ⟨g, o, rfl⟩
  subst hA
  refine ⟨g, o, b, o', c', rfl, h3 _ rfl, ?_, hb.2.1, hb.1, by omega, by rw [length_bv]; omega, fun _ => ⟨b, o', rfl, hb.2.1, hc⟩⟩
  have := h2.cell (j := i) h5
  rw [this]
  congr 2
  omega
/-- Behind an append of a new row. -/
theorem RowsP.snoc {wr w2 : World} {A2 : Option Addr} {c2 : Nat} {vs : List Value} {l : List UInt8} {v : Value} (_hUw : U ≤ wr.heap.size) (h1 : L.length = n) (h3 : ∀ ad, A = some ad → ad.block < U) (hBA : ∀ ad, A = some ad → B ≤ ad.block)
    (h4 : ∀ i (h : i < L.length), ∃ v, vs[i]? = some v ∧ Part wr (fun k => B ≤ k ∧ k < U ∧ ∀ ad, A = some ad → k ≠ ad.block) v L[i]) (hvs : vs.length = n)
    (hv : Part wr (fun k => B ≤ k ∧ U ≤ k ∧ k < wr.heap.size) v l) (hrow : Row w2 B 1 A2 (n + 1) c2 (vs ++ [v])) (hgr : wr.grownBy w2 (A.map (·.block))) (hat : A2 = A ∨ ∃ ad, A2 = some ad ∧ wr.heap.size ≤ ad.block) : RowsP w2 B w2.heap.size A2 (n + 1) c2 (L ++ [l]) := by
  have hs := hgr.size
  have key : ∀ k, k < wr.heap.size → (∀ ad, A = some ad → k ≠ ad.block) → w2.heap[k]? = wr.heap[k]? := fun k hk hne => hgr.block k hk (fun e => by
    cases A with
    | none => cases e
    | some ad => simp at e; exact hne ad rfl e)
  have far : ∀ k, k < wr.heap.size → (∀ ad, A = some ad → k ≠ ad.block) → ∀ ad, A2 = some ad → k ≠ ad.block := fun k hk hne ad e => by
    rcases hat with h | ⟨ad', h, h'⟩
    · rw [h] at e; exact hne ad e
    · rw [h] at e; cases e; omega
  refine ⟨by simp [h1], vs ++ [v], hrow, fun ad e => (hrow.lt ad e).2, fun i hi => ?_⟩
  rw [List.length_append, List.length_singleton] at hi
  by_cases hin : i < L.length
  · obtain ⟨u, h5, h6⟩ := h4 i hin
    refine ⟨u, by rw [List.getElem?_append_left (by omega)]; exact h5, ?_⟩
    rw [List.getElem_append_left hin]
    exact (h6.keep fun k hk => key k (by have := hk.2.1; omega) hk.2.2).mono fun k hk => ⟨hk.1, by have := hk.2.1; omega, far k (by have := hk.2.1; omega) hk.2.2⟩
  · have hi2 : i = L.length := by omega
    refine ⟨v, by rw [hi2, h1, ← hvs]; simp, ?_⟩
    have e : (L ++ [l])[i]'(by simp; omega) = l := by subst hi2; simp
    rw [e]
    have hne : ∀ k, U ≤ k → ∀ ad, A = some ad → k ≠ ad.block := fun k hk ad e => by have := h3 ad e; omega
    exact (hv.keep fun k hk => key k hk.2.2 (hne k hk.2.1)).mono fun k hk => ⟨hk.1, by have := hk.2.2; omega, far k hk.2.2 (hne k hk.2.1)⟩
end
end Go.Proofs.YtogpnlfbdhddmaaGreatDoor
