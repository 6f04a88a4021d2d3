/- GENERAL: words for memory, over any program: a slice that reads as a list; a row of the call's own; what append leaves. -/
import Derived.Test.YtiijjpjkfiookaaDoorLib
import Derived.ArgAppend
import Derived.Deep.OwnRows
import Derived.Deep.AppendLies
import Derived.Deep.Draws
import Derived.Laws.CopyOwn
import Derived.Lib.ConvBytes
namespace Go.Proofs.YtiijjpjkfiookaaDoor
open Go.RowKit

theorem block_of_add (a : Addr) (n : Nat) : (a.add n).block = a.block := by unfold Addr.add; split <;> rfl
theorem add_of_add (a : Addr) (i j : Nat) : (a.add i).add j = a.add (i + j) := by
  unfold Addr.add
  by_cases hi : i = 0 <;> by_cases hj : j = 0 <;> simp [hi, hj, Nat.add_assoc]
theorem add_plain (b o i : Nat) : (⟨b, o, none⟩ : Addr).add i = ⟨b, o + i, none⟩ := by
  unfold Addr.add; split <;> simp_all

/-- The slice value (address A, n elements of `size` cells) reads as the cells xs; it lies below block B. -/
def Reads (w : World) (B size : Nat) (A : Option Addr) (n : Nat) (xs : List Value) : Prop :=
  xs.length = n * size ∧ (0 < n → ∃ b o, A = some ⟨b, o, none⟩ ∧ b < B ∧ ∀ j u, xs[j]? = some u → w.cell? ⟨b, o + j, none⟩ = some u)

section
variable {w w' : World} {B B' size n : Nat} {A : Option Addr} {xs : List Value}
theorem Reads.nil_ : Reads w B size A 0 [] := ⟨by simp, fun h => absurd h (by omega)⟩
theorem Reads.keep (h : Reads w B size A n xs) (hk : ∀ p : Addr, p.block < B → w'.cell? p = w.cell? p) : Reads w' B size A n xs :=
  ⟨h.1, fun hn => by
    obtain ⟨b, o, e, hb, hc⟩ := h.2 hn
    exact ⟨b, o, e, hb, fun j u hu => (hk _ hb).trans (hc j u hu)⟩⟩
theorem Reads.congr_ {ys : List Value} (h : Reads w B size A n xs) (e : ys = xs) : Reads w B size A n ys := e ▸ h
theorem Reads.more (h : Reads w B size A n xs) (hB : B ≤ B') : Reads w B' size A n xs :=
  ⟨h.1, fun hn => by
    obtain ⟨b, o, e, hb, hc⟩ := h.2 hn
    exact ⟨b, o, e, by omega, hc⟩⟩
theorem Reads.below (h : Reads w B size A n xs) (hb : Below B w w') : Reads w' B size A n xs := h.keep fun _ hp => hb.cell hp
theorem Reads.drew (h : Reads w B size A n xs) : Reads w.drew B size A n xs := h
theorem Reads.drewN (h : Reads w B size A n xs) (k : Nat) : Reads (w.drewN k) B size A n xs := h
theorem Reads.alloc (h : Reads w B size A n xs) (hB : B ≤ w.heap.size) (o : Obj) : Reads (w.alloc o) B size A n xs := h.keep fun p hp => World.cell?_alloc_lt w o p (by omega)
theorem Reads.setCell (h : Reads w B size A n xs) {p : Addr} (hB : B ≤ p.block) (u : Value) : Reads (w.setCell p u) B size A n xs :=
  h.keep fun q hq => World.cell?_setCell_other w p q u (fun e => by subst e; omega)
theorem Reads.grown (h : Reads w B size A n xs) {row : Option Nat} (hg : w.grownBy w' row) (hB : B ≤ w.heap.size) (hr : ∀ g, row = some g → B ≤ g) : Reads w' B size A n xs :=
  h.keep fun p hp => World.cell?_of_block (hg.block p.block (by omega) (fun e => by have := hr _ e.symm; omega))
theorem Reads.cut (h : Reads w B size A n xs) {k cap : Nat} (hk : k ≤ n) (hc : n ≤ cap) :
    Reads w B size (if cap = k then A else A.map (·.add (k * size))) (n - k) (xs.drop (k * size)) := by
  refine ⟨by rw [List.length_drop, h.1, Nat.sub_mul], fun hn => ?_⟩
  obtain ⟨b, o, rfl, hb, hcell⟩ := h.2 (by omega)
  rw [if_neg (by omega)]
  refine ⟨b, o + k * size, by simp [add_plain], hb, fun j u hu => ?_⟩
  rw [Nat.add_assoc]
  exact hcell _ u (by rw [← hu, List.getElem?_drop])
theorem Reads.take (h : Reads w B size A n xs) {k : Nat} (hk : k ≤ n) : Reads w B size A k (xs.take (k * size)) := by
  refine ⟨by rw [List.length_take, h.1]; exact Nat.min_eq_left (Nat.mul_le_mul_right _ hk), fun hn => ?_⟩
  obtain ⟨b, o, rfl, hb, hcell⟩ := h.2 (by omega)
  refine ⟨b, o, rfl, hb, fun j u hu => hcell j u ?_⟩
  rw [List.getElem?_take] at hu
  split at hu
  · exact hu
  · cases hu
end

/-! ### a row of the call's own -/

/-- The slice value (address A, n elements of `size` cells, room for cap) lies in a block from `base` on; its cells up to the capacity are there and not frozen; the first read xs. -/
def Row (w : World) (base size : Nat) (A : Option Addr) (n cap : Nat) (xs : List Value) : Prop :=
  xs.length = n * size ∧ n ≤ cap ∧ cap ≤ maxLen ∧ (A = none → cap = 0) ∧
  ∀ ad, A = some ad → ∃ g o, ad = ⟨g, o, none⟩ ∧ base ≤ g ∧ g < w.heap.size ∧
    (∀ j, j < cap * size → (w.cell? ⟨g, o + j, none⟩).isSome = true ∧ w.frozen? ⟨g, o + j, none⟩ = false) ∧
    ∀ j u, xs[j]? = some u → w.cell? ⟨g, o + j, none⟩ = some u

section
variable {w w' : World} {base base' size n cap : Nat} {A : Option Addr} {xs : List Value}
theorem Row.length (h : Row w base size A n cap xs) : xs.length = n * size := h.1
theorem Row.nil_ (w : World) (base size : Nat) : Row w base size none 0 0 [] := ⟨by simp, Nat.le_refl _, Nat.zero_le _, fun _ => rfl, fun _ h => by cases h⟩
theorem Row.reads (h : Row w base size A n cap xs) : Reads w w.heap.size size A n xs := by
  obtain ⟨h1, h2, h3, h4, h5⟩ := h
  refine ⟨h1, fun hn => ?_⟩
  cases A with
  | none => have := h4 rfl; omega
  | some ad =>
    obtain ⟨g, o, rfl, _, hlt, _, hc⟩ := h5 _ rfl
    exact ⟨g, o, rfl, hlt, hc⟩
/-- What a row reads turns with its own block alone. -/
theorem Row.of_block (h : Row w base size A n cap xs) (hb : ∀ ad, A = some ad → w'.heap[ad.block]? = w.heap[ad.block]?) : Row w' base size A n cap xs := by
  obtain ⟨h1, h2, h3, h4, h5⟩ := h
  refine ⟨h1, h2, h3, h4, fun ad e => ?_⟩
  obtain ⟨g, o, rfl, hg, hlt, hr, hc⟩ := h5 _ e
  have hk := hb _ e
  have hlt' : g < w'.heap.size := by
    rcases Nat.lt_or_ge g w'.heap.size with h' | h'
    · exact h'
    · have h1 : w'.heap[g]? = none := Array.getElem?_eq_none h'
      rw [h1] at hk
      simp [Array.getElem?_eq_getElem hlt] at hk
  refine ⟨g, o, rfl, hg, hlt', fun j hj => ?_, fun j u hu => ?_⟩
  · rw [World.cell?_of_block (w := w) (a := ⟨g, o + j, none⟩) hk, World.frozen?_of_block (w := w) (a := ⟨g, o + j, none⟩) hk]
    exact hr j hj
  · rw [World.cell?_of_block (w := w) (a := ⟨g, o + j, none⟩) hk]
    exact hc j u hu
theorem Row.lt (h : Row w base size A n cap xs) : ∀ ad, A = some ad → base ≤ ad.block ∧ ad.block < w.heap.size := by
  intro ad e
  obtain ⟨g, o, rfl, hg, hlt, _⟩ := h.2.2.2.2 _ e
  exact ⟨hg, hlt⟩
theorem Row.mono (h : Row w base size A n cap xs) (hb : base' ≤ base) : Row w base' size A n cap xs := by
  obtain ⟨h1, h2, h3, h4, h5⟩ := h
  refine ⟨h1, h2, h3, h4, fun ad e => ?_⟩
  obtain ⟨g, o, r1, hg, r⟩ := h5 _ e
  exact ⟨g, o, r1, by omega, r⟩
theorem Row.drew (h : Row w base size A n cap xs) : Row w.drew base size A n cap xs := h
theorem Row.drewN (h : Row w base size A n cap xs) (k : Nat) : Row (w.drewN k) base size A n cap xs := h
theorem Row.alloc (h : Row w base size A n cap xs) (o : Obj) : Row (w.alloc o) base size A n cap xs :=
  h.of_block fun ad e => Below.heap_alloc w o ad.block (h.lt ad e).2
theorem Row.far (h : Row w base size A n cap xs) {p : Addr} (hp : ∀ ad, A = some ad → ad.block ≠ p.block) (u : Value) : Row (w.setCell p u) base size A n cap xs :=
  h.of_block fun ad e => Below.heap_setCell w p u ad.block (hp ad e)
theorem Row.below {B : Nat} (h : Row w base size A n cap xs) (hb : Below B w w') (hB : w.heap.size ≤ B) : Row w' base size A n cap xs :=
  h.of_block fun ad e => hb.block ad.block (by have := (h.lt ad e).2; omega)
theorem Row.grown {row : Option Nat} (h : Row w base size A n cap xs) (hg : w.grownBy w' row) (hr : ∀ ad, A = some ad → some ad.block ≠ row) : Row w' base size A n cap xs :=
  h.of_block fun ad e => hg.block ad.block (h.lt ad e).2 (hr ad e)
theorem Row.cut (h : Row w base size A n cap xs) {k : Nat} (hk : k ≤ n) : Row w base size (if cap = k then A else A.map (·.add (k * size))) (n - k) (cap - k) (xs.drop (k * size)) := by
  obtain ⟨h1, h2, h3, h4, h5⟩ := h
  refine ⟨by rw [List.length_drop, h1, Nat.sub_mul], by omega, by omega, ?_, ?_⟩
  · intro e
    split at e
    · have := h4 e; omega
    · cases A with
      | none => have := h4 rfl; omega
      | some ad => cases e
  · intro ad e
    split at e
    · next hck =>
      obtain ⟨g, o, rfl, hg, hlt, hr, hc⟩ := h5 _ e
      refine ⟨g, o, rfl, hg, hlt, fun j hj => ?_, fun j u hu => ?_⟩
      · rw [show cap - k = 0 by omega] at hj; omega
      · have : n = k := by omega
        subst this
        rw [List.drop_of_length_le (by rw [h1]; exact Nat.le_refl _)] at hu
        simp at hu
    · cases A with
      | none => cases e
      | some ad0 =>
        obtain ⟨g, o, rfl, hg, hlt, hr, hc⟩ := h5 _ rfl
        simp only [Option.map_some, Option.some.injEq, add_plain] at e
        subst e
        refine ⟨g, o + k * size, rfl, hg, hlt, fun j hj => ?_, fun j u hu => ?_⟩
        · rw [Nat.add_assoc]
          refine hr _ ?_
          rw [Nat.sub_mul] at hj
          omega
        · rw [Nat.add_assoc]
          exact hc _ u (by rw [← hu, List.getElem?_drop])
theorem Row.take (h : Row w base size A n cap xs) {k : Nat} (hk : k ≤ n) : Row w base size A k cap (xs.take (k * size)) := by
  obtain ⟨h1, h2, h3, h4, h5⟩ := h
  refine ⟨by rw [List.length_take, h1]; exact Nat.min_eq_left (Nat.mul_le_mul_right _ hk), by omega, h3, h4, fun ad e => ?_⟩
  obtain ⟨g, o, r1, hg, hlt, hr, hc⟩ := h5 _ e
  refine ⟨g, o, r1, hg, hlt, hr, fun j u hu => hc j u ?_⟩
  rw [List.getElem?_take] at hu
  split at hu
  · exact hu
  · cases hu
theorem Row.of_own {e : TypeId} {v : Value} (h : w.ownsRow base e size v n xs) : ∃ A cap, v = .slice A n cap ∧ Row w base size A n cap xs := by
  obtain ⟨h1, h2⟩ := h
  rcases h2 with ⟨rfl, rfl⟩ | ⟨g, cap, cur, rfl, hg, hh, hnc, hm, hs, ht⟩
  · exact ⟨none, 0, rfl, h1, Nat.le_refl _, Nat.zero_le _, fun _ => rfl, fun _ h => by cases h⟩
  · refine ⟨_, cap, rfl, h1, hnc, hm, (fun h => by cases h), fun ad e => ?_⟩
    simp only [Option.some.injEq] at e
    subst e
    have hlt : g < w.heap.size := (Array.getElem?_eq_some_iff.1 hh).1
    refine ⟨g, 0, rfl, hg, hlt, fun j hj => ?_, fun j u hu => ?_⟩
    · simp only [Nat.zero_add]
      constructor
      · simp [World.cell?, hh, hs, hj]
      · simp [World.frozen?, hh]
    · simp only [Nat.zero_add]
      rw [← ht, List.getElem?_take] at hu
      split at hu
      · simp [World.cell?, hh, ← hu]
      · cases hu
theorem Row.of_rowIs {g : Nat} {t : TypeId} {f : Nat → Value} (h : w.rowIs g t n f) (hg : base ≤ g) (hn : n ≤ maxLen) : Row w base 1 (some ⟨g, 0, none⟩) n n ((List.range n).map f) := by
  refine ⟨by simp, Nat.le_refl _, hn, (fun h => by cases h), fun ad e => ?_⟩
  simp only [Option.some.injEq] at e
  subst e
  refine ⟨g, 0, rfl, hg, h.lt, fun j hj => ?_, fun j u hu => ?_⟩
  · rw [Nat.zero_add]
    exact ⟨by rw [h.cell (by omega)]; rfl, h.frozen j⟩
  · rw [Nat.zero_add]
    obtain ⟨hj, hv⟩ := List.getElem?_eq_some_iff.1 hu
    simp only [List.length_map, List.length_range] at hj
    rw [h.cell hj]
    simpa using hv
end

/-! ### bytes -/
/-- Bytes as cells. -/
def bv (l : List UInt8) : List Value := l.map fun c => .int .u8 (c.toNat : Int)
theorem length_bv (l : List UInt8) : (bv l).length = l.length := by simp [bv]
theorem bv_append (a b : List UInt8) : bv (a ++ b) = bv a ++ bv b := by simp [bv]
theorem bv_at (l : List UInt8) (j : Nat) (h : j < l.length) : (bv l)[j]? = some (.int .u8 (l[j].toNat : Int)) := by simp [bv, h]
theorem bv_one (l : List UInt8) : ∀ u ∈ bv l, u.oneCell' = true := by
  intro u hu
  obtain ⟨c, _, rfl⟩ := List.mem_map.1 hu
  rfl
theorem bv_inj {a b : List UInt8} (h : bv a = bv b) : a = b := by
  apply List.ext_getElem?
  intro i
  have := congrArg (·[i]?) h
  simp only [bv, List.getElem?_map] at this
  cases ha : a[i]? <;> cases hb : b[i]? <;> simp [ha, hb] at this ⊢
  exact UInt8.toNat_inj.1 (by omega)
theorem bv_drop (l : List UInt8) (k : Nat) : bv (l.drop k) = (bv l).drop k := by simp [bv, List.map_drop]
theorem bv_take (l : List UInt8) (k : Nat) : bv (l.take k) = (bv l).take k := by simp [bv, List.map_take]

/-- 'string(b)'. -/
theorem run_conv_bytes {P : Program} {src dst e : TypeId} (hs : P.underlying src = some (.slice e)) (he : P.underlying e = some (.int .u8)) (hd : P.underlying dst = some .string)
    {w : World} {B : Nat} {A : Option Addr} {n cap : Nat} {l : List UInt8} (h : Reads w B 1 A n (bv l)) :
    (convert src dst (.slice A n cap)).run P w = .ok (.string ⟨l.toArray⟩) w := by
  have hl : l.length = n := by have := h.1; rw [length_bv] at this; omega
  cases A with
  | none =>
    have h0 : n = 0 := by
      rcases Nat.eq_zero_or_pos n with h0 | h0
      · exact h0
      · obtain ⟨_, _, e, _⟩ := h.2 h0; cases e
    subst h0
    have : l = [] := List.eq_nil_of_length_eq_zero hl
    subst this
    exact run_convert_bytes_nil w src e hs he 0 cap dst hd
  | some ad =>
    subst hl
    refine run_convert_bytes_back w src dst e ad cap l hs he hd fun j hj => ?_
    obtain ⟨b, o, e, _, hc⟩ := h.2 (by omega)
    simp only [Option.some.injEq] at e
    subst e
    rw [add_plain]
    exact hc j _ (bv_at l j hj)

/-! ### chains; cells of a row -/
theorem thenB {a b c : World} (h : Below a.heap.size a b) (k : Below b.heap.size b c) : Below a.heap.size a c := h.trans (k.mono h.size)
section
variable {w w' : World} {base size n cap g o : Nat} {xs : List Value}
theorem Row.at_ (h : Row w base size (some ⟨g, o, none⟩) n cap xs) : base ≤ g ∧ g < w.heap.size ∧ (∀ j, j < cap * size → (w.cell? ⟨g, o + j, none⟩).isSome = true ∧ w.frozen? ⟨g, o + j, none⟩ = false) ∧ ∀ j u, xs[j]? = some u → w.cell? ⟨g, o + j, none⟩ = some u := by
  obtain ⟨g', o', e, h1, h2, h3, h4⟩ := h.2.2.2.2 _ rfl
  simp only [Addr.mk.injEq, and_true] at e
  obtain ⟨rfl, rfl⟩ := e
  exact ⟨h1, h2, h3, h4⟩
theorem Row.cell (h : Row w base size (some ⟨g, o, none⟩) n cap xs) {j : Nat} {u : Value} (hu : xs[j]? = some u) : w.cell? ⟨g, o + j, none⟩ = some u := h.at_.2.2.2 j u hu
theorem Row.free (h : Row w base size (some ⟨g, o, none⟩) n cap xs) {j : Nat} (hj : j < cap * size) : w.frozen? ⟨g, o + j, none⟩ = false := (h.at_.2.2.1 j hj).2
theorem frozen?_setCell (w : World) (p q : Addr) (u : Value) : (w.setCell p u).frozen? q = w.frozen? q := by
  by_cases h : q.block = p.block
  · simp only [World.frozen?, World.setCell, Array.getElem?_modify, h]
    simp only [if_true]
    cases hk : w.heap[p.block]? with
    | none => rfl
    | some ob => cases ob <;> rfl
  · exact World.frozen?_of_block (w := w) (Below.heap_setCell w p u q.block h)
theorem Row.set (h : Row w base size (some ⟨g, o, none⟩) n cap xs) {j : Nat} (hj : j < cap * size) (u : Value) : Row (w.setCell ⟨g, o + j, none⟩ u) base size (some ⟨g, o, none⟩) n cap (xs.set j u) := by
  obtain ⟨h1, h2, h3, h4⟩ := h.at_
  refine ⟨by rw [List.length_set]; exact h.1, h.2.1, h.2.2.1, (fun e => by cases e), fun ad e => ?_⟩
  simp only [Option.some.injEq] at e
  subst e
  have hs : ∀ i, (w.setCell ⟨g, o + j, none⟩ u).cell? ⟨g, o + i, none⟩ = if i = j then some u else w.cell? ⟨g, o + i, none⟩ := by
    intro i
    by_cases e : i = j
    · subst e
      rw [if_pos rfl]
      obtain ⟨v, hv⟩ := Option.isSome_iff_exists.1 (h3 i hj).1
      exact World.cell?_setCell_same w _ _ hv
    · rw [if_neg e]
      exact World.cell?_setCell_other w _ _ u (by simp only [ne_eq, Addr.mk.injEq, and_true, true_and]; omega)
  refine ⟨g, o, rfl, h1, by simpa [World.setCell] using h2, fun i hi => ⟨?_, by rw [frozen?_setCell]; exact (h3 i hi).2⟩, fun i v hv => ?_⟩
  · rw [hs]
    split
    · rfl
    · exact (h3 i hi).1
  · rw [hs]
    rw [List.getElem?_set] at hv
    by_cases e : i = j
    · subst e
      rw [if_pos rfl] at hv ⊢
      split at hv
      · exact hv
      · cases hv
    · rw [if_neg e]
      rw [if_neg (fun e' => e e'.symm)] at hv
      exact h4 i v hv
end
theorem bv_set (l : List UInt8) (j : Nat) (c : UInt8) : bv (l.set j c) = (bv l).set j (.int .u8 (c.toNat : Int)) := by simp [bv, List.map_set]

/-- '[]byte(s)'. -/
theorem run_bytes_str {P : Program} {src dst e : TypeId} (hs : P.underlying src = some .string) (hd : P.underlying dst = some (.slice e)) (he : P.underlying e = some (.int .u8)) (s : ByteArray) (hm : s.size ≤ maxLen) (w : World) :
    ∃ c w', (convert src dst (.string s)).run P w = .ok (.slice (some ⟨w.heap.size, 0, none⟩) s.size c) w' ∧ Row w' w.heap.size 1 (some ⟨w.heap.size, 0, none⟩) s.size c (bv s.data.toList) ∧ Below w.heap.size w w' := by
  have hc : s.size ≤ grownCap w s.size 0 e := grownCap_ge w s.size 0 e
  have hcm : grownCap w s.size 0 e ≤ maxLen := grownCap_le_maxLen w s.size 0 e hm
  have hsz : (Lib.bytesCells w e s).size = grownCap w s.size 0 e := by
    have : s.data.size = s.size := rfl
    simp [Lib.bytesCells]; omega
  refine ⟨grownCap w s.size 0 e, Lib.bytesWorld w e s, Lib.run_convert_string_bytes w src dst e s hs hd he, ⟨by rw [length_bv, Nat.mul_one]; simp, hc, hcm, (fun h => by cases h), fun ad h => ?_⟩, ?_⟩
  · simp only [Option.some.injEq] at h
    subst h
    refine ⟨w.heap.size, 0, rfl, Nat.le_refl _, by rw [Lib.bytesWorld_size]; omega, fun j hj => ?_, fun j u hu => ?_⟩
    · rw [Nat.zero_add]
      have hjs : j < (Lib.bytesCells w e s).size := by omega
      constructor
      · simp [World.cell?, Lib.bytesWorld_at_new, hjs]
      · simp only [World.frozen?, Lib.bytesWorld_at_new]
        simp
        omega
    · rw [Nat.zero_add]
      obtain ⟨hj, hv⟩ := List.getElem?_eq_some_iff.1 hu
      rw [length_bv] at hj
      have hj' : j < s.size := by simpa using hj
      rw [Lib.bytesWorld_cell w e s j hj', ← hv]
      simp [bv, List.getD, hj']
  · exact ⟨rfl, rfl, rfl, by rw [Lib.bytesWorld_size]; omega, fun k hk => Lib.bytesWorld_at_old w e s k hk⟩
end Go.Proofs.YtiijjpjkfiookaaDoor
