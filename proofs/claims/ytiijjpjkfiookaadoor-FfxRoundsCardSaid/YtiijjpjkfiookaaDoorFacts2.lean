/- GENERAL: what values come to, stable while the world grows (for XFacts). -/
import Derived.Test.YtiijjpjkfiookaaDoorFacts
import Derived.Test.YtiijjpjkfiookaaDoorClone
import Derived.Great.BuildSlice
namespace Go.Proofs.YtiijjpjkfiookaaDoor
open Go.RowKit

/-- Nothing old has turned. -/
def Grows (w w' : World) : Prop := Below w.heap.size w w'
theorem grows_refl (w : World) : Grows w w := Below.refl _ _
theorem grows_trans (x y z : World) (h : Grows x y) (k : Grows y z) : Grows x z := thenB h k
theorem grows_drewN {w w' : World} (h : Grows w w') (n : Nat) : Grows w (w'.drewN n) := below_drewN h n
def eqv (c : Value) (v : Value) (_ : World) : Prop := v = c
def anyv (_ : Value) (_ : World) : Prop := True
/-- The value is a slice that reads these bytes. -/
def BytesV (l : List UInt8) (v : Value) (w : World) : Prop := ∃ A n c B, v = .slice A n c ∧ l.length = n ∧ n ≤ c ∧ B ≤ w.heap.size ∧ Reads w B 1 A n (bv l)
/-- The value lists these parts. -/
def ListV (L : List (List UInt8)) (v : Value) (w : World) : Prop := ∃ A c B, v = .slice A L.length c ∧ B ≤ w.heap.size ∧ Parts w (· < B) A L
theorem BytesV.grows {l : List UInt8} {v : Value} {w w' : World} (h : BytesV l v w) (g : Grows w w') : BytesV l v w' := by
  obtain ⟨A, n, c, B, e, hl, hc, hB, hr⟩ := h
  exact ⟨A, n, c, B, e, hl, hc, Nat.le_trans hB g.size, hr.below (g.mono hB)⟩
theorem ListV.grows {L : List (List UInt8)} {v : Value} {w w' : World} (h : ListV L v w) (g : Grows w w') : ListV L v w' := by
  obtain ⟨A, c, B, e, hB, hp⟩ := h
  exact ⟨A, c, B, e, Nat.le_trans hB g.size, hp.keep fun k hk => g.block k (by omega)⟩
theorem BytesV.of_row {l : List UInt8} {w : World} {base n c : Nat} {A : Option Addr} (h : Row w base 1 A n c (bv l)) : BytesV l (.slice A n c) w :=
  ⟨A, n, c, _, rfl, by have := h.1; rw [length_bv] at this; omega, h.2.1, Nat.le_refl _, h.reads⟩
theorem BytesV.part {l : List UInt8} {v : Value} {w : World} (h : BytesV l v w) (hl : l.length ≤ 140737488351232) : Part w (· < w.heap.size) v l := by
  obtain ⟨A, n, c, B, rfl, he, hc, hB, hr⟩ := h
  exact Part.of_reads hr hc (by omega) fun k hk => by omega
/-- 'string(b)'. -/
theorem BytesV.conv {P : Program} {src dst e : TypeId} {l : List UInt8} {v : Value} {w : World} (h : BytesV l v w) (hs : P.underlying src = some (.slice e)) (he : P.underlying e = some (.int .u8)) (hd : P.underlying dst = some .string) :
    (convert src dst v).run P w = .ok (.string ⟨l.toArray⟩) w := by
  obtain ⟨A, n, c, B, rfl, _, _, _, hr⟩ := h
  exact run_conv_bytes hs he hd hr
theorem ListV.one {l : List UInt8} {v : Value} {w : World} {t : TypeId} (h : BytesV l v w) (hl : l.length ≤ 140737488351232) : ListV [l] (.slice (some ⟨w.heap.size, 0, none⟩) 1 1) (w.alloc (.cells #[v] t)) :=
  ⟨_, 1, w.heap.size + 1, rfl, by simp, (Parts.one (h.part hl) fun k hk => hk).mono fun k hk => by rcases hk with hk | hk <;> omega⟩
theorem ListV.two {l l2 : List UInt8} {v v2 : Value} {w : World} {t : TypeId} (h : BytesV l v w) (h2 : BytesV l2 v2 w) (hl : l.length ≤ 140737488351232) (hl2 : l2.length ≤ 140737488351232) : ListV [l, l2] (.slice (some ⟨w.heap.size, 0, none⟩) 2 2) (w.alloc (.cells #[v, v2] t)) :=
  ⟨_, 2, w.heap.size + 1, rfl, by simp, (Parts.two (h.part hl) (h2.part hl2) fun k hk => hk).mono fun k hk => by rcases hk with hk | hk <;> omega⟩
theorem ListV.three {l l2 l3 : List UInt8} {v v2 v3 : Value} {w : World} {t : TypeId} (h : BytesV l v w) (h2 : BytesV l2 v2 w) (h3 : BytesV l3 v3 w) (hl : l.length ≤ 140737488351232) (hl2 : l2.length ≤ 140737488351232) (hl3 : l3.length ≤ 140737488351232) :
    ListV [l, l2, l3] (.slice (some ⟨w.heap.size, 0, none⟩) 3 3) (w.alloc (.cells #[v, v2, v3] t)) :=
  ⟨_, 3, w.heap.size + 1, rfl, by simp, (Parts.three (h.part hl) (h2.part hl2) (h3.part hl3) fun k hk => hk).mono fun k hk => by rcases hk with hk | hk <;> omega⟩
theorem BytesV.drew {l : List UInt8} {v : Value} {w : World} (h : BytesV l v w) : BytesV l v w.drew := h.grows ((Below.refl _ _).drew)
theorem BytesV.cut {l : List UInt8} {A : Option Addr} {n c k : Nat} {w : World} (h : BytesV l (.slice A n c) w) (hk : k ≤ n) : BytesV (l.drop k) (.slice (if c = k then A else A.map (·.add k)) (n - k) (c - k)) w := by
  obtain ⟨A', n', c', B, e, hl, hc, hB, hr⟩ := h
  injection e with e1 e2 e3
  subst e1 e2 e3
  have := hr.cut hk hc
  rw [Nat.mul_one, ← bv_drop] at this
  exact ⟨_, _, _, B, rfl, by simp; omega, by omega, hB, this⟩
theorem BytesV.head {l : List UInt8} {A : Option Addr} {n c k : Nat} {w : World} (h : BytesV l (.slice A n c) w) (hk : k ≤ n) : BytesV (l.take k) (.slice A k c) w := by
  obtain ⟨A', n', c', B, e, hl, hc, hB, hr⟩ := h
  injection e with e1 e2 e3
  subst e1 e2 e3
  have := hr.take hk
  rw [Nat.mul_one, ← bv_take] at this
  exact ⟨_, _, _, B, rfl, by simp; omega, by omega, hB, this⟩
theorem BytesV.form {l : List UInt8} {v : Value} {w : World} (h : BytesV l v w) : ∃ A n c, v = .slice A n c := by
  obtain ⟨A, n, c, _, e, _⟩ := h
  exact ⟨A, n, c, e⟩
theorem BytesV.nil_ (w : World) : BytesV [] (.slice none 0 0) w := ⟨none, 0, 0, 0, rfl, rfl, Nat.le_refl _, Nat.zero_le _, Reads.nil_⟩
/-- A list of facts, by number. -/
def nthF (Fs : List (Value → World → Prop)) (j : Nat) : Value → World → Prop := Fs.getD j anyv
def Stable (f : Value → World → Prop) : Prop := ∀ v w w', f v w → Grows w w' → f v w'
theorem st_nil : ∀ f ∈ ([] : List (Value → World → Prop)), Stable f := fun _ h => by cases h
theorem st_cons {f : Value → World → Prop} {Fs : List (Value → World → Prop)} (h : Stable f) (k : ∀ g ∈ Fs, Stable g) : ∀ g ∈ f :: Fs, Stable g := fun g hg => by
  rcases List.mem_cons.1 hg with rfl | hg
  · exact h
  · exact k g hg
theorem nth_stable {Fs : List (Value → World → Prop)} (h : ∀ f ∈ Fs, Stable f) : ∀ j v w w', nthF Fs j v w → Grows w w' → nthF Fs j v w' := fun j v w w' hf hg => by
  unfold nthF at *
  rw [List.getD_eq_getElem?_getD] at *
  cases e : Fs[j]? with
  | none => trivial
  | some f =>
    rw [e] at hf
    exact h f (List.mem_of_getElem? e) v w w' hf hg
theorem st_eqv (c : Value) : Stable (eqv c) := fun _ _ _ h _ => h
theorem st_any : Stable anyv := fun _ _ _ h _ => h
theorem st_bytes (l : List UInt8) : Stable (BytesV l) := fun _ _ _ h g => h.grows g
theorem st_list (L : List (List UInt8)) : Stable (ListV L) := fun _ _ _ h g => h.grows g
end Go.Proofs.YtiijjpjkfiookaaDoor
