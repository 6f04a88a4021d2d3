/- GENERAL: a world that has grown, whose old blocks stand but for those of a set; parts (slices of bytes in a row) that stand in such blocks. -/
import Derived.Test.YtiijjpjkfiookaaDoorRow2
import Derived.Test.YtiijjpjkfiookaaDoorBlk
namespace Go.Proofs.YtiijjpjkfiookaaDoor
open Go.RowKit

/-- w' is w with more blocks; of the old ones only those of S have turned. -/
structure Grew (S : Nat → Prop) (w w' : World) : Prop where
  os : w'.os = w.os
  tape : w'.tape = w.tape
  output : w'.output = w.output
  size : w.heap.size ≤ w'.heap.size
  block : ∀ k, k < w.heap.size → ¬ S k → w'.heap[k]? = w.heap[k]?

namespace Grew
variable {S T : Nat → Prop} {w w' w'' : World}
theorem refl (S : Nat → Prop) (w : World) : Grew S w w := ⟨rfl, rfl, rfl, Nat.le_refl _, fun _ _ _ => rfl⟩
theorem trans (h : Grew S w w') (k : Grew S w' w'') : Grew S w w'' :=
  ⟨k.os.trans h.os, k.tape.trans h.tape, k.output.trans h.output, Nat.le_trans h.size k.size, fun i hi hn => (k.block i (Nat.lt_of_lt_of_le hi h.size) hn).trans (h.block i hi hn)⟩
theorem mono (h : Grew S w w') (hs : ∀ k, k < w.heap.size → S k → T k) : Grew T w w' := ⟨h.os, h.tape, h.output, h.size, fun k hk hn => h.block k hk (fun hh => hn (hs k hk hh))⟩
theorem drew (h : Grew S w w') : Grew S w w'.drew := ⟨h.os, h.tape, h.output, h.size, h.block⟩
theorem drewN (h : Grew S w w') (n : Nat) : Grew S w (w'.drewN n) := ⟨h.os, h.tape, h.output, h.size, h.block⟩
theorem alloc (h : Grew S w w') (o : Obj) : Grew S w (w'.alloc o) :=
  ⟨h.os, h.tape, h.output, Nat.le_trans h.size (by simp), fun i hi hne => (Below.heap_alloc w' o i (Nat.lt_of_lt_of_le hi h.size)).trans (h.block i hi hne)⟩
theorem set (h : Grew S w w') {p : Addr} (hp : S p.block ∨ w.heap.size ≤ p.block) (u : Value) : Grew S w (w'.setCell p u) :=
  ⟨h.os, h.tape, h.output, by simpa [World.setCell] using h.size, fun i hi hne => (Below.heap_setCell w' p u i (by
    rintro rfl
    rcases hp with hp | hp
    · exact hne hp
    · omega)).trans (h.block i hi hne)⟩
theorem of_below {B : Nat} (h : Below B w w') (hB : ∀ k, k < w.heap.size → B ≤ k → S k) : Grew S w w' :=
  ⟨h.os, h.tape, h.output, h.size, fun k hk hn => h.block k (by
    rcases Nat.lt_or_ge k B with h' | h'
    · exact h'
    · exact absurd (hB k hk h') hn)⟩
theorem of_new (h : Below w.heap.size w w') : Grew S w w' := of_below h fun k hk h' => by omega
theorem of_grown {row : Option Nat} (h : w.grownBy w' row) (hr : ∀ k, row = some k → k < w.heap.size → S k) : Grew S w w' :=
  ⟨h.os, h.tape, h.output, h.size, fun k hk hn => h.block k hk (fun e => hn (hr k e.symm hk))⟩
theorem of_only (h : Only S w w') : Grew S w w' := ⟨h.os, h.tape, h.output, Nat.le_of_eq h.size.symm, fun k _ hn => h.block k hn⟩
theorem below (h : Grew S w w') {B : Nat} (hB : B ≤ w.heap.size) (hs : ∀ k, k < w.heap.size → S k → B ≤ k) : Below B w w' :=
  ⟨h.os, h.tape, h.output, h.size, fun k hk => h.block k (by omega) (fun hh => by have := hs k (by omega) hh; omega)⟩
theorem cell (h : Grew S w w') {a : Addr} (ha : a.block < w.heap.size) (hn : ¬ S a.block) : w'.cell? a = w.cell? a := World.cell?_of_block (h.block _ ha hn)
theorem frozen (h : Grew S w w') {a : Addr} (ha : a.block < w.heap.size) (hn : ¬ S a.block) : w'.frozen? a = w.frozen? a := World.frozen?_of_block (h.block _ ha hn)
end Grew
section
variable {S : Nat → Prop} {w w' : World} {base B size n cap : Nat} {A : Option Addr} {xs : List Value}
theorem Row.grew (h : Row w base size A n cap xs) (hg : Grew S w w') (hs : ∀ ad, A = some ad → ¬ S ad.block) : Row w' base size A n cap xs :=
  h.of_block fun ad e => hg.block ad.block (h.lt ad e).2 (hs ad e)
theorem Blk.grew {g : Nat} {t : TypeId} {cs : Array Value} (h : Blk w g t cs) (hg : Grew S w w') (hs : ¬ S g) : Blk w' g t cs := (hg.block g h.lt hs).trans h
theorem Reads.grew (h : Reads w B size A n xs) (hB : B ≤ w.heap.size) (hg : Grew S w w') (hs : ∀ k, k < B → ¬ S k) : Reads w' B size A n xs :=
  h.keep fun p hp => World.cell?_of_block (hg.block _ (by omega) (hs _ hp))
end

/-- Behind an append onto a row of the call's own. -/
theorem below_append {w wr w2 : World} {B size n c : Nat} {o : Obj} {A : Option Addr} {xs : List Value} (hb : Below B w wr) (hB : B ≤ wr.heap.size) (hrow : Row wr B size A n c xs) (hg : (wr.alloc o).grownBy w2 (A.map (·.block))) : Below B w w2 :=
  (hb.alloc hB o).trans (Grew.below (S := fun k => B ≤ k) (Grew.of_grown hg fun k hk _ => hrow.blocks k hk) (by simp; omega) fun _ _ h => h)
theorem below_append0 {w wr w2 : World} {B size n c : Nat} {A : Option Addr} {xs : List Value} (hb : Below B w wr) (hB : B ≤ wr.heap.size) (hrow : Row wr B size A n c xs) (hg : wr.grownBy w2 (A.map (·.block))) : Below B w w2 :=
  hb.trans (Grew.below (S := fun k => B ≤ k) (Grew.of_grown hg fun k hk _ => hrow.blocks k hk) hB fun _ _ h => h)

/-! ### parts -/
/-- The value is a slice of these bytes; they stand in a block of R. -/
def Part (w : World) (R : Nat → Prop) (v : Value) (l : List UInt8) : Prop :=
  ∃ A n c, v = .slice A n c ∧ l.length = n ∧ n ≤ c ∧ n ≤ 140737488351232 ∧ (0 < n → ∃ b o, A = some ⟨b, o, none⟩ ∧ R b ∧ ∀ j u, (bv l)[j]? = some u → w.cell? ⟨b, o + j, none⟩ = some u)
/-- So many slices of bytes in a row, all in blocks of R. -/
def Parts (w : World) (R : Nat → Prop) (A : Option Addr) (L : List (List UInt8)) : Prop :=
  0 < L.length → ∃ b o, A = some ⟨b, o, none⟩ ∧ R b ∧ ∀ i (h : i < L.length), ∃ v, w.cell? ⟨b, o + i, none⟩ = some v ∧ Part w R v L[i]
section
variable {w w' : World} {R R' : Nat → Prop} {A : Option Addr} {v : Value} {l : List UInt8} {L : List (List UInt8)}
theorem Part.keep (h : Part w R v l) (hk : ∀ k, R k → w'.heap[k]? = w.heap[k]?) : Part w' R v l := by
  obtain ⟨A, n, c, e, h1, h2, h3, h4⟩ := h
  refine ⟨A, n, c, e, h1, h2, h3, fun hn => ?_⟩
  obtain ⟨b, o, e2, hR, hc⟩ := h4 hn
  exact ⟨b, o, e2, hR, fun j u hu => (World.cell?_of_block (a := ⟨b, o + j, none⟩) (hk b hR)).trans (hc j u hu)⟩
theorem Part.mono (h : Part w R v l) (hk : ∀ k, R k → R' k) : Part w R' v l := by
  obtain ⟨A, n, c, e, h1, h2, h3, h4⟩ := h
  refine ⟨A, n, c, e, h1, h2, h3, fun hn => ?_⟩
  obtain ⟨b, o, e2, hR, hc⟩ := h4 hn
  exact ⟨b, o, e2, hk b hR, hc⟩
theorem Part.reads (h : Part w R v l) {B : Nat} (hB : ∀ k, R k → k < B) : ∃ A n c, v = .slice A n c ∧ l.length = n ∧ n ≤ c ∧ n ≤ 140737488351232 ∧ Reads w B 1 A n (bv l) := by
  obtain ⟨A, n, c, e, h1, h2, h3, h4⟩ := h
  refine ⟨A, n, c, e, h1, h2, h3, by rw [length_bv]; omega, fun hn => ?_⟩
  obtain ⟨b, o, e2, hR, hc⟩ := h4 hn
  exact ⟨b, o, e2, hB b hR, hc⟩
theorem Part.its {n c : Nat} (h : Part w R (.slice A n c) l) {B : Nat} (hB : ∀ k, R k → k < B) : l.length = n ∧ n ≤ c ∧ n ≤ 140737488351232 ∧ Reads w B 1 A n (bv l) := by
  obtain ⟨A', n', c', e, h1, h2, h3, h4⟩ := h.reads hB
  injection e with e1 e2 e3
  subst e1 e2 e3
  exact ⟨h1, h2, h3, h4⟩
theorem Part.of_reads {B n c : Nat} (h : Reads w B 1 A n (bv l)) (hnc : n ≤ c) (hc : n ≤ 140737488351232) (hR : ∀ k, k < B → R k) : Part w R (.slice A n c) l := by
  refine ⟨A, n, c, rfl, by have := h.1; rw [length_bv] at this; omega, hnc, hc, fun hn => ?_⟩
  obtain ⟨b, o, e, hb, hcell⟩ := h.2 hn
  exact ⟨b, o, e, hR b hb, hcell⟩
theorem Part.of_row {base n c : Nat} (h : Row w base 1 A n c (bv l)) (hc : n ≤ 140737488351232) (hR : ∀ ad, A = some ad → R ad.block) : Part w R (.slice A n c) l := by
  refine ⟨A, n, c, rfl, by have := h.1; rw [length_bv] at this; omega, h.2.1, hc, fun hn => ?_⟩
  obtain ⟨b, o, e, hb, hcell⟩ := h.reads.2 hn
  exact ⟨b, o, e, hR _ e, hcell⟩
theorem Parts.keep (h : Parts w R A L) (hk : ∀ k, R k → w'.heap[k]? = w.heap[k]?) : Parts w' R A L := fun hn => by
  obtain ⟨b, o, e, hR, hc⟩ := h hn
  refine ⟨b, o, e, hR, fun i hi => ?_⟩
  obtain ⟨v, hv, hp⟩ := hc i hi
  exact ⟨v, (World.cell?_of_block (a := ⟨b, o + i, none⟩) (hk b hR)).trans hv, hp.keep hk⟩
theorem Parts.mono (h : Parts w R A L) (hk : ∀ k, R k → R' k) : Parts w R' A L := fun hn => by
  obtain ⟨b, o, e, hR, hc⟩ := h hn
  refine ⟨b, o, e, hk b hR, fun i hi => ?_⟩
  obtain ⟨v, hv, hp⟩ := hc i hi
  exact ⟨v, hv, hp.mono hk⟩
theorem Parts.grew {S : Nat → Prop} (h : Parts w R A L) (hg : Grew S w w') (hk : ∀ k, R k → k < w.heap.size ∧ ¬ S k) : Parts w' R A L := h.keep fun k hR => hg.block k (hk k hR).1 (hk k hR).2
theorem Part.grew {S : Nat → Prop} (h : Part w R v l) (hg : Grew S w w') (hk : ∀ k, R k → k < w.heap.size ∧ ¬ S k) : Part w' R v l := h.keep fun k hR => hg.block k (hk k hR).1 (hk k hR).2
theorem Parts.nil_ (w : World) (R : Nat → Prop) (A : Option Addr) : Parts w R A [] := fun h => absurd h (by simp)
/-- Parts listed in a new block. -/
theorem Parts.lit {t : TypeId} {cs : Array Value} (h : ∀ i (hi : i < L.length), ∃ v, cs[i]? = some v ∧ Part w R v L[i]) (hR : ∀ k, R k → k < w.heap.size) :
    Parts (w.alloc (.cells cs t)) (fun k => R k ∨ k = w.heap.size) (some ⟨w.heap.size, 0, none⟩) L := fun _ => by
  refine ⟨_, 0, rfl, .inr rfl, fun i hi => ?_⟩
  obtain ⟨v, hv, hp⟩ := h i hi
  refine ⟨v, by rw [Nat.zero_add, cell?_new]; exact hv, (hp.keep fun k hk => Below.heap_alloc w _ k (hR k hk)).mono fun k hk => .inl hk⟩
theorem Parts.one {t : TypeId} (h : Part w R v l) (hR : ∀ k, R k → k < w.heap.size) : Parts (w.alloc (.cells #[v] t)) (fun k => R k ∨ k = w.heap.size) (some ⟨w.heap.size, 0, none⟩) [l] :=
  Parts.lit (fun i hi => by
    have : i = 0 := by simpa using hi
    subst this
    exact ⟨v, rfl, h⟩) hR
theorem Parts.two {t : TypeId} {v2 : Value} {l2 : List UInt8} (h : Part w R v l) (h2 : Part w R v2 l2) (hR : ∀ k, R k → k < w.heap.size) : Parts (w.alloc (.cells #[v, v2] t)) (fun k => R k ∨ k = w.heap.size) (some ⟨w.heap.size, 0, none⟩) [l, l2] :=
  Parts.lit (fun i hi => by
    match i, hi with
    | 0, _ => exact ⟨v, rfl, h⟩
    | 1, _ => exact ⟨v2, rfl, h2⟩
    | i + 2, hi => simp at hi; omega) hR
theorem Parts.three {t : TypeId} {v2 v3 : Value} {l2 l3 : List UInt8} (h : Part w R v l) (h2 : Part w R v2 l2) (h3 : Part w R v3 l3) (hR : ∀ k, R k → k < w.heap.size) : Parts (w.alloc (.cells #[v, v2, v3] t)) (fun k => R k ∨ k = w.heap.size) (some ⟨w.heap.size, 0, none⟩) [l, l2, l3] :=
  Parts.lit (fun i hi => by
    match i, hi with
    | 0, _ => exact ⟨v, rfl, h⟩
    | 1, _ => exact ⟨v2, rfl, h2⟩
    | 2, _ => exact ⟨v3, rfl, h3⟩
    | i + 3, hi => simp at hi; omega) hR
end
end Go.Proofs.YtiijjpjkfiookaaDoor
