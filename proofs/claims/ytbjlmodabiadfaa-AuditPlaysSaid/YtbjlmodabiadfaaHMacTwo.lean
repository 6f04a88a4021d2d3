/- Two makers at once: what stands while their tags are made (for XFacts). -/
import Derived.Test.YtbjlmodabiadfaaHMacV
namespace Go.Proofs.Ytbjlmodabiadfaa
open Go.RowKit

/-- Facts stable under a growth. -/
def StableG (G : World → World → Prop) (f : Value → World → Prop) : Prop := ∀ v w w', f v w → G w w' → f v w'
theorem stg_nil {G : World → World → Prop} : ∀ f ∈ ([] : List (Value → World → Prop)), StableG G f := fun _ h => by cases h
theorem stg_cons {G : World → World → Prop} {f : Value → World → Prop} {Fs : List (Value → World → Prop)} (h : StableG G f) (k : ∀ g ∈ Fs, StableG G g) : ∀ g ∈ f :: Fs, StableG G g := fun g hg => by
  rcases List.mem_cons.1 hg with rfl | hg
  · exact h
  · exact k g hg
theorem nth_stableG {G : World → World → Prop} {Fs : List (Value → World → Prop)} (h : ∀ f ∈ Fs, StableG G f) : ∀ j v w w', nthF Fs j v w → G w w' → nthF Fs j v w' := fun j v w w' hf hg => by
  unfold nthF at *
  rw [List.getD_eq_getElem?_getD] at *
  cases e : Fs[j]? with
  | none => trivial
  | some f =>
    rw [e] at hf
    exact h f (List.mem_of_getElem? e) v w w' hf hg
theorem stg_eqv {G : World → World → Prop} (c : Value) : StableG G (eqv c) := fun _ _ _ h _ => h
theorem stg_any {G : World → World → Prop} : StableG G anyv := fun _ _ _ h _ => h

theorem MakerAt.bound {w : World} {mb : Nat} {X : Nat → Prop} {key : List UInt8} (h : MakerAt w mb X key) : MakerAt w mb (fun k => X k ∧ k < w.heap.size) key := by
  obtain ⟨A, n, c, hr, ha, hb⟩ := h
  exact ⟨A, n, c, hr, fun ad e => ⟨⟨(ha ad e).1, (hr.lt ad e).2⟩, (ha ad e).2⟩, hb⟩

section
variable (ma mb : Nat)
/-- Of the old blocks the two makers' own have turned, at most. -/
def GM (w w' : World) : Prop := Grew (fun k => k = ma ∨ k = mb) w w'
def Off (w : World) (k : Nat) : Prop := k < w.heap.size ∧ k ≠ ma ∧ k ≠ mb
/-- The value reads these bytes, off the makers. -/
def PB (l : List UInt8) (v : Value) (w : World) : Prop := Part w (Off ma mb w) v l
/-- The value lists these parts, off the makers. -/
def PL (L : List (List UInt8)) (v : Value) (w : World) : Prop := ∃ A c, v = .slice A L.length c ∧ Parts w (Off ma mb w) A L
/-- Both makers stand. -/
def Two (N : Nat) (k1 k2 : List UInt8) (w : World) : Prop :=
  MakerAt w ma (fun k => k ≠ mb ∧ k < N) k1 ∧ MakerAt w mb (fun k => k ≠ ma ∧ k < N) k2 ∧ N ≤ w.heap.size
end
section
variable {ma mb : Nat} {w w' w'' : World}
theorem gm_refl (w : World) : GM ma mb w w := Grew.refl _ _
theorem gm_trans (x y z : World) (h : GM ma mb x y) (k : GM ma mb y z) : GM ma mb x z := Grew.trans h k
theorem gm_drew (h : GM ma mb w w') : GM ma mb w w'.drew := Grew.drew h
theorem gm_new (h : Grows w w') : GM ma mb w w' := Grew.of_new h
theorem Off.mono {k : Nat} (h : Off ma mb w k) (hs : w.heap.size ≤ w'.heap.size) : Off ma mb w' k := ⟨by have := h.1; omega, h.2⟩
theorem PB.gm {l : List UInt8} {v : Value} (h : PB ma mb l v w) (g : GM ma mb w w') : PB ma mb l v w' :=
  (Part.grew h g fun _ hk => ⟨hk.1, fun e => e.elim hk.2.1 hk.2.2⟩).mono fun _ hk => hk.mono g.size
theorem PL.gm {L : List (List UInt8)} {v : Value} (h : PL ma mb L v w) (g : GM ma mb w w') : PL ma mb L v w' := by
  obtain ⟨A, c, e, hp⟩ := h
  exact ⟨A, c, e, (hp.grew g fun k hk => ⟨hk.1, fun e => e.elim hk.2.1 hk.2.2⟩).mono fun _ hk => hk.mono g.size⟩
theorem stg_pb (l : List UInt8) : StableG (GM ma mb) (PB ma mb l) := fun _ _ _ h g => h.gm g
theorem stg_pl (L : List (List UInt8)) : StableG (GM ma mb) (PL ma mb L) := fun _ _ _ h g => h.gm g
theorem PB.of_row {l : List UInt8} {n c : Nat} {A : Option Addr} (h : Row w' w.heap.size 1 A n c (bv l)) (hn : n ≤ 140737488351232) (ha : ma < w.heap.size) (hb : mb < w.heap.size) : PB ma mb l (.slice A n c) w' :=
  Part.of_row h hn fun ad e => by have := h.lt ad e; exact ⟨this.2, by omega, by omega⟩
theorem PB.of_reads {l : List UInt8} {B n c : Nat} {A : Option Addr} (h : Reads w B 1 A n (bv l)) (hnc : n ≤ c) (hn : n ≤ 140737488351232) (hB : B ≤ w.heap.size) (ha : B ≤ ma) (hb : B ≤ mb) : PB ma mb l (.slice A n c) w :=
  Part.of_reads h hnc hn fun k hk => ⟨by omega, by omega, by omega⟩
theorem PB.conv {P : Program} {src dst e : TypeId} {l : List UInt8} {v : Value} (h : PB ma mb l v w) (hs : P.underlying src = some (.slice e)) (he : P.underlying e = some (.int .u8)) (hd : P.underlying dst = some .string) :
    (convert src dst v).run P w = .ok (.string ⟨l.toArray⟩) w := by
  obtain ⟨A, n, c, rfl, _, _, _, hr⟩ := Part.reads h (B := w.heap.size) fun k hk => hk.1
  exact run_conv_bytes hs he hd hr
theorem off_new {t : TypeId} {cs : Array Value} {L : List (List UInt8)} {A : Option Addr} (ha : ma < w.heap.size) (hb : mb < w.heap.size) (h : Parts (w.alloc (.cells cs t)) (fun k => Off ma mb w k ∨ k = w.heap.size) A L) : Parts (w.alloc (.cells cs t)) (Off ma mb (w.alloc (.cells cs t))) A L :=
  h.mono fun k hk => by
    rcases hk with hk | rfl
    · exact hk.mono (by simp)
    · exact ⟨by simp, by omega, by omega⟩
theorem PL.one {l : List UInt8} {v : Value} {t : TypeId} (h : PB ma mb l v w) (ha : ma < w.heap.size) (hb : mb < w.heap.size) : PL ma mb [l] (.slice (some ⟨w.heap.size, 0, none⟩) 1 1) (w.alloc (.cells #[v] t)) :=
  ⟨_, 1, rfl, off_new ha hb (Parts.one h fun _ hk => hk.1)⟩
theorem PL.two {l l2 : List UInt8} {v v2 : Value} {t : TypeId} (h : PB ma mb l v w) (h2 : PB ma mb l2 v2 w) (ha : ma < w.heap.size) (hb : mb < w.heap.size) : PL ma mb [l, l2] (.slice (some ⟨w.heap.size, 0, none⟩) 2 2) (w.alloc (.cells #[v, v2] t)) :=
  ⟨_, 2, rfl, off_new ha hb (Parts.two h h2 fun _ hk => hk.1)⟩
theorem gm_alloc (o : Obj) : GM ma mb w (w.alloc o) := gm_new ((Below.refl _ _).alloc (Nat.le_refl _) o)
variable {N : Nat} {k1 k2 : List UInt8}
theorem Two.lt (h : Two ma mb N k1 k2 w) : ma < w.heap.size ∧ mb < w.heap.size := ⟨h.1.lt, h.2.1.lt⟩
theorem Two.new (h : Two ma mb N k1 k2 w) (g : Grows w w') : Two ma mb N k1 k2 w' := by
  have hg : Grew (fun _ => False) w w' := Grew.of_new g
  exact ⟨h.1.grew hg (fun h => h) (fun _ _ h => h), h.2.1.grew hg (fun h => h) (fun _ _ h => h), Nat.le_trans h.2.2 g.size⟩
theorem Two.alloc (h : Two ma mb N k1 k2 w) (o : Obj) : Two ma mb N k1 k2 (w.alloc o) := h.new ((Below.refl _ _).alloc (Nat.le_refl _) o)
theorem Two.drew (h : Two ma mb N k1 k2 w) : Two ma mb N k1 k2 w.drew := h.new ((Below.refl _ _).drew)
/-- The call hands back bytes, off the makers; both stand. -/
def OutM (ma mb N : Nat) (k1 k2 l : List UInt8) (w : World) (e : Ending) (w' : World) : Prop := ∃ v, e = .returned v ∧ PB ma mb l v w' ∧ GM ma mb w w' ∧ Two ma mb N k1 k2 w'
theorem first_m (hne : ma ≠ mb) (L : List (List UInt8)) (v : Value) (h : Two ma mb N k1 k2 w) (hp : PL ma mb L v w) (hk : k1.length ≤ 140737488351232) (hlen : L.length ≤ 140737488351232) (hsum : L.flatten.length ≤ 576460752303423488) :
    Calls Try.prog 21 #[.pointer (some ⟨ma, 0, none⟩), v] w (OutM ma mb N k1 k2 (macB k1 L.flatten) w) := by
  obtain ⟨A, c, rfl, hp⟩ := hp
  refine (MMac_any ma _ k1 L A c _ w h.1 hk hp (fun k hk => ⟨hk.1, hk.2.1⟩) hlen hsum).mono ?_
  rintro e w' ⟨A2, c2, rfl, hrow, hm, hg⟩
  exact ⟨_, rfl, .of_row hrow (by rw [length_macB]; omega) h.1.lt h.2.1.lt, hg.mono fun k _ e => .inl e, hm, h.2.1.grew hg (fun e => hne e.symm) (fun k hk => hk.1), Nat.le_trans h.2.2 hg.size⟩
theorem second_m (hne : ma ≠ mb) (L : List (List UInt8)) (v : Value) (h : Two ma mb N k1 k2 w) (hp : PL ma mb L v w) (hk : k2.length ≤ 140737488351232) (hlen : L.length ≤ 140737488351232) (hsum : L.flatten.length ≤ 576460752303423488) :
    Calls Try.prog 21 #[.pointer (some ⟨mb, 0, none⟩), v] w (OutM ma mb N k1 k2 (macB k2 L.flatten) w) := by
  obtain ⟨A, c, rfl, hp⟩ := hp
  refine (MMac_any mb _ k2 L A c _ w h.2.1 hk hp (fun k hk => ⟨hk.1, hk.2.2⟩) hlen hsum).mono ?_
  rintro e w' ⟨A2, c2, rfl, hrow, hm, hg⟩
  exact ⟨_, rfl, .of_row hrow (by rw [length_macB]; omega) h.1.lt h.2.1.lt, hg.mono fun k _ e => .inr e, h.1.grew hg hne (fun k hk => hk.1), hm, Nat.le_trans h.2.2 hg.size⟩
theorem plain_m (key : List UInt8) (L : List (List UInt8)) (k v : Value) (h : Two ma mb N k1 k2 w) (hkk : PB ma mb key k w) (hp : PL ma mb L v w) (hlen : L.length ≤ 140737488351232) (hsum : L.flatten.length ≤ 576460752303423488) :
    Calls Try.prog 18 #[k, v] w (OutM ma mb N k1 k2 (macB key L.flatten) w) := by
  obtain ⟨A, c, rfl, hp⟩ := hp
  obtain ⟨A2, n2, c2, rfl, _, _, hn2, hr⟩ := Part.reads hkk (B := w.heap.size) fun k hk => hk.1
  refine (Mac_any key L A2 n2 c2 w.heap.size A c _ w hr (Nat.le_refl _) hn2 hp (fun k hk => hk.1) hlen hsum).mono ?_
  rintro e w' ⟨A3, c3, rfl, hrow, hb⟩
  exact ⟨_, rfl, .of_row hrow (by rw [length_macB]; omega) h.1.lt h.2.1.lt, gm_new hb, h.new hb⟩
/-- Two new makers. -/
theorem two_new {w1 w2 w3 : World} (h1 : MakerAt w2 ma (fun k => w1.heap.size ≤ k) k1) (h2 : MakerAt w3 mb (fun k => w2.heap.size ≤ k) k2) (hb : Below w2.heap.size w2 w3) (hmb : w2.heap.size ≤ mb) : Two ma mb w3.heap.size k1 k2 w3 := by
  have l1 := h1.lt
  refine ⟨((h1.bound).grew (Grew.of_new (S := fun _ => False) hb) (fun h => h) (fun _ _ h => h)).mono fun k hk => ⟨by have := hk.2; omega, by have := hk.2; have := hb.size; omega⟩, h2.bound.mono fun k hk => ⟨by have := hk.1; omega, hk.2⟩, Nat.le_refl _⟩
end
end Go.Proofs.Ytbjlmodabiadfaa
