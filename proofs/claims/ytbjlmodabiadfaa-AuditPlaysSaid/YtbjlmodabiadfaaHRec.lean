/- Records in a row of the call's own. -/
import Derived.Test.YtbjlmodabiadfaaHAud2
namespace Go.Proofs.Ytbjlmodabiadfaa
open Go.RowKit

theorem rec_info : (Try.prog.info? 51).map (fun i => (i.zero, i.size, i.bytes)) = some (some (.agg #[.int .i64 0, .string ByteArray.empty, .slice none 0 0]), 3, 48) := by kernel_rfl
theorem rec_cells : (Value.agg #[.int .i64 0, .string ByteArray.empty, .slice none 0 0]).cells.size = 3 := by kernel_rfl
/-- A record's cells. -/
def rcv (r : Rec) (v : Value) : List Value := [.int .i64 r.seq, .string r.text, v]
/-- What a row of records may hold its tags in. -/
def RTag (Y : Nat → Prop) (A : Option Addr) (w : World) (k : Nat) : Prop := Y k ∧ k < w.heap.size ∧ ∀ ad, A = some ad → k ≠ ad.block
/-- Records in a row of the call's own; their tags lie in blocks of Y, beside the row. -/
def RowRec (w : World) (base : Nat) (Y : Nat → Prop) (A : Option Addr) (n c : Nat) (L : List Rec) : Prop :=
  ∃ vs : List Value, L.length = n ∧ vs.length = n ∧ Row w base 3 A n c (List.zipWith rcv L vs).flatten ∧ ∀ i (h : i < L.length) (h' : i < vs.length), Part w (RTag Y A w) vs[i] L[i].tag
theorem zip_length (L : List Rec) : ∀ vs : List Value, vs.length = L.length → (List.zipWith rcv L vs).flatten.length = L.length * 3 := by
  induction L with
  | nil => intro vs _; simp
  | cons r L ih =>
    intro vs h
    match vs, h with
    | v :: vs, h => simp only [List.zipWith_cons_cons, List.flatten_cons, List.length_append, ih vs (by simpa using h), List.length_cons]; simp [rcv]; omega
theorem zip_at (L : List Rec) : ∀ (vs : List Value) (_ : vs.length = L.length) (i : Nat) (h : i < L.length) (h' : i < vs.length), (List.zipWith rcv L vs).flatten[i * 3]? = some (.int .i64 L[i].seq) ∧ (List.zipWith rcv L vs).flatten[i * 3 + 1]? = some (.string L[i].text) ∧ (List.zipWith rcv L vs).flatten[i * 3 + 2]? = some vs[i] := by
  induction L with
  | nil => intro vs _ i h; simp at h
  | cons r L ih =>
    intro vs hl i h h'
    match vs, hl, h' with
    | v :: vs, hl, h' =>
      simp only [List.zipWith_cons_cons, List.flatten_cons]
      match i, h, h' with
      | 0, _, _ => exact ⟨rfl, rfl, rfl⟩
      | i + 1, h, h' =>
        have e : (rcv r v).length = 3 := rfl
        obtain ⟨g0, g1, g2⟩ := ih vs (by simpa using hl) i (by simpa using h) (by simpa using h')
        rw [List.getElem?_append_right (by omega), List.getElem?_append_right (by omega), List.getElem?_append_right (by omega)]
        simp only [List.getElem_cons_succ]
        refine ⟨?_, ?_, ?_⟩
        · rw [← g0]; congr 1; omega
        · rw [← g1]; congr 1; omega
        · rw [← g2]; congr 1; omega
section
variable {w w' : World} {base : Nat} {Y Y' : Nat → Prop} {A : Option Addr} {n c : Nat} {L : List Rec}
theorem RowRec.nil_ (w : World) (base : Nat) (Y : Nat → Prop) : RowRec w base Y none 0 0 [] := ⟨[], rfl, rfl, Row.nil_ w base 3, fun i h => by simp at h⟩
theorem RowRec.length (h : RowRec w base Y A n c L) : L.length = n := by obtain ⟨_, h1, _⟩ := h; exact h1
theorem RowRec.lt (h : RowRec w base Y A n c L) : ∀ ad, A = some ad → base ≤ ad.block ∧ ad.block < w.heap.size := by obtain ⟨_, _, _, h3, _⟩ := h; exact h3.lt
theorem RowRec.recs (h : RowRec w base Y A n c L) : Recs w (fun k => (Y k ∧ k < w.heap.size) ∨ ∃ ad, A = some ad ∧ k = ad.block) A L := fun hn => by
  obtain ⟨vs, h1, h2, h3, h4⟩ := h
  obtain ⟨b, o, hA, _, hc⟩ := h3.reads.2 (by omega)
  subst hA
  refine ⟨b, o, rfl, .inr ⟨_, rfl, rfl⟩, fun i hi => ?_⟩
  obtain ⟨g0, g1, g2⟩ := zip_at L vs (by omega) i hi (by omega)
  exact ⟨by simpa using hc _ _ g0, by simpa [Nat.add_assoc] using hc _ _ g1, _, by simpa [Nat.add_assoc] using hc _ _ g2, (h4 i hi _).mono fun k hk => .inl ⟨hk.1, hk.2.1⟩⟩
theorem RowRec.grew {S : Nat → Prop} (h : RowRec w base Y A n c L) (g : Grew S w w') (h1 : ∀ ad, A = some ad → ¬ S ad.block) (h2 : ∀ k, RTag Y A w k → ¬ S k) : RowRec w' base Y A n c L := by
  obtain ⟨vs, g1, g2, g3, g4⟩ := h
  exact ⟨vs, g1, g2, g3.grew g h1, fun i hi hi' => ((g4 i hi hi').keep fun k hk => g.block k hk.2.1 (h2 k hk)).mono fun k hk => ⟨hk.1, Nat.lt_of_lt_of_le hk.2.1 g.size, hk.2.2⟩⟩
theorem RowRec.new (h : RowRec w base Y A n c L) (g : Below w.heap.size w w') : RowRec w' base Y A n c L := h.grew (Grew.of_new (S := fun _ => False) g) (fun _ _ h => h) fun _ _ h => h
theorem RowRec.mono (h : RowRec w base Y A n c L) {base' : Nat} (hb : base' ≤ base) (hk : ∀ k, Y k → Y' k) : RowRec w base' Y' A n c L := by
  obtain ⟨vs, g1, g2, g3, g4⟩ := h
  exact ⟨vs, g1, g2, g3.mono hb, fun i hi hi' => (g4 i hi hi').mono fun k hk' => ⟨hk k hk'.1, hk'.2⟩⟩
/-- One record more. -/
theorem RowRec.snoc {A' : Option Addr} {c' : Nat} {r : Rec} {v : Value} {vs : List Value} (h1 : L.length = n) (h2 : vs.length = n) (h4 : ∀ i (h : i < L.length) (h' : i < vs.length), Part w (RTag Y A w) vs[i] L[i].tag)
    (hrow : Row w' base 3 A' (n + 1) c' ((List.zipWith rcv L vs).flatten ++ rcv r v)) (hg : w.grownBy w' (A.map (·.block))) (hat : A' = A ∨ ∃ ad, A' = some ad ∧ w.heap.size ≤ ad.block) (hp : Part w (RTag Y A w) v r.tag) : RowRec w' base Y A' (n + 1) c' (L ++ [r]) := by
  have key : ∀ k, RTag Y A w k → RTag Y A' w' k := fun k hk => ⟨hk.1, Nat.lt_of_lt_of_le hk.2.1 hg.size, fun ad e => by
    rcases hat with rfl | ⟨ad', e', hle⟩
    · exact hk.2.2 ad e
    · rw [e] at e'; cases e'; have := hk.2.1; omega⟩
  have keep : ∀ {v : Value} {l : List UInt8}, Part w (RTag Y A w) v l → Part w' (RTag Y A' w') v l := fun h => (h.keep fun k hk => hg.block k hk.2.1 (by
    cases A with
    | none => simp
    | some ad => simpa using fun e => hk.2.2 ad rfl e)).mono key
  refine ⟨vs ++ [v], by simp [h1], by simp [h2], ?_, fun i hi hi' => ?_⟩
  · rw [List.zipWith_append (by omega)]
    simpa using hrow
  · by_cases e : i < L.length
    · rw [List.getElem_append_left (by omega), List.getElem_append_left e]; exact keep (h4 i e (by omega))
    · have : i = n := by simp at hi; omega
      subst this
      rw [List.getElem_append_right (by omega), List.getElem_append_right (by omega)]
      simp only [h1, h2, Nat.sub_self, List.getElem_cons_zero]
      exact keep hp
end
theorem rcv_one (r : Rec) (A : Option Addr) (n c : Nat) : ∀ u ∈ rcv r (.slice A n c), u.oneCell' = true := by
  intro u hu
  simp only [rcv, List.mem_cons, List.not_mem_nil, or_false] at hu
  rcases hu with rfl | rfl | rfl <;> rfl
/-- Ahead of an append of a record. -/
theorem rec_ready {w w' : World} {base : Nat} {Y : Nat → Prop} {A : Option Addr} {n c : Nat} {L : List Rec} {r : Rec} {v : Value} (t : TypeId) (hrow : RowRec w base Y A n c L) (hb : Below w.heap.size w w') (hp : Part w' (RTag Y A w') v r.tag) {g : Nat} (hg : w'.heap.size = g) :
    ∃ vs : List Value, L.length = n ∧ vs.length = n ∧ Row (w'.alloc (.cells #[.int .i64 r.seq, .string r.text, v] t)) base 3 A n c (List.zipWith rcv L vs).flatten ∧
      (∀ i (h : i < L.length) (h' : i < vs.length), Part (w'.alloc (.cells #[.int .i64 r.seq, .string r.text, v] t)) (RTag Y A (w'.alloc (.cells #[.int .i64 r.seq, .string r.text, v] t))) vs[i] L[i].tag) ∧
      Reads (w'.alloc (.cells #[.int .i64 r.seq, .string r.text, v] t)) (g + 1) 3 (some ⟨g, 0, none⟩) 1 (rcv r v) ∧
      Part (w'.alloc (.cells #[.int .i64 r.seq, .string r.text, v] t)) (RTag Y A (w'.alloc (.cells #[.int .i64 r.seq, .string r.text, v] t))) v r.tag := by
  subst hg
  have hx : Below w'.heap.size w' (w'.alloc (.cells #[.int .i64 r.seq, .string r.text, v] t)) := (Below.refl _ _).alloc (Nat.le_refl _) _
  obtain ⟨vs, h1, h2, h3, h4⟩ := hrow.new (hb.trans (hx.mono hb.size))
  exact ⟨vs, h1, h2, h3, h4, Reads.lit w' #[.int .i64 r.seq, .string r.text, v] t rfl, (hp.keep fun k hk => hx.block k hk.2.1).mono fun k hk => ⟨hk.1, Nat.lt_of_lt_of_le hk.2.1 hx.size, hk.2.2⟩⟩
/-- The call hands back a new row of records. -/
def RecsOut (L : List Rec) (w : World) (e : Ending) (w' : World) : Prop := ∃ A c, e = .returned (.slice A L.length c) ∧ RowRec w' w.heap.size (w.heap.size ≤ ·) A L.length c L ∧ Below w.heap.size w w'
end Go.Proofs.Ytbjlmodabiadfaa
