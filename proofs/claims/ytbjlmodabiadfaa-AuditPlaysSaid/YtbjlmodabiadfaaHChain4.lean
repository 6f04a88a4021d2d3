/- Audit: what becomes of a chain's memory. -/
import Derived.Test.YtbjlmodabiadfaaHChain3
namespace Go.Proofs.Ytbjlmodabiadfaa
open Go.RowKit

def Ch.next (x : Ch) (s : ByteArray) : Rec := ⟨x.end_.seq + 1, s, tagB x.key x.end_.tag (x.end_.seq + 1) s.data.toList⟩
/-- A chain with a record more; at most 12 are kept. -/
def Ch.trim (key : List UInt8) (bs : Int) (bt : List UInt8) (l : List Rec) : Ch := match l with
  | [] => ⟨key, bs, bt, []⟩
  | f :: r => if 12 < r.length + 1 then ⟨key, f.seq, f.tag, r⟩ else ⟨key, bs, bt, f :: r⟩
def Ch.add (x : Ch) (s : ByteArray) : Ch := Ch.trim x.key x.bseq x.btag (x.recs ++ [x.next s])
/-- What is the chain's own, but for its own block. -/
structure CO (w : World) (cb : Nat) (X : Nat → Prop) (A : Option Addr) (c : Nat) (vk vt : Value) (key bt : List UInt8) (L : List Rec) : Prop where
  pk : Part w (RTag (fun k => X k ∧ k ≠ cb) A w) vk key
  pt : Part w (RTag (fun k => X k ∧ k ≠ cb) A w) vt bt
  row : RowRec w 0 (fun k => X k ∧ k ≠ cb) A L.length c L
  own : ∀ ad, A = some ad → X ad.block ∧ ad.block ≠ cb
section
variable {w w' : World} {cb : Nat} {X X' : Nat → Prop} {A A' : Option Addr} {c c' : Nat} {vk vt : Value} {key bt : List UInt8} {L : List Rec} {x : Ch}
theorem ChainAt.co (h : ChainAt w cb X x) : ∃ vk vt A c, Blk w cb 96 #[vk, .int .i64 x.bseq, .string ⟨#[]⟩, vt, .slice A x.recs.length c, .int .i64 x.end_.seq] ∧ CO w cb X A c vk vt x.key x.btag x.recs := by
  obtain ⟨vk, vt, A, c, a1, a2, a3, a4, a5⟩ := h
  exact ⟨vk, vt, A, c, a1, a2, a3, a4, a5⟩
theorem CO.chainZ {z : Int} (h : CO w cb X A c vk vt x.key x.btag x.recs) (hb : Blk w cb 96 #[vk, .int .i64 x.bseq, .string ⟨#[]⟩, vt, .slice A x.recs.length c, .int .i64 z]) : ChainZ w cb X x z := ⟨vk, vt, A, c, hb, h.pk, h.pt, h.row, h.own⟩
theorem CO.chain (h : CO w cb X A c vk vt x.key x.btag x.recs) (hb : Blk w cb 96 #[vk, .int .i64 x.bseq, .string ⟨#[]⟩, vt, .slice A x.recs.length c, .int .i64 x.end_.seq]) : ChainAt w cb X x := ⟨vk, vt, A, c, hb, h.pk, h.pt, h.row, h.own⟩
theorem CO.grew {S : Nat → Prop} (h : CO w cb X A c vk vt key bt L) (g : Grew S w w') (hs : ∀ k, X k → k ≠ cb → k < w.heap.size → ¬ S k) : CO w' cb X A c vk vt key bt L := by
  have hk : ∀ k, RTag (fun k => X k ∧ k ≠ cb) A w k → w'.heap[k]? = w.heap[k]? := fun k hk => g.block k hk.2.1 (hs k hk.1.1 hk.1.2 hk.2.1)
  exact ⟨(h.pk.keep hk).mono fun k hk => hk.grew g.size, (h.pt.keep hk).mono fun k hk => hk.grew g.size, h.row.grew g (fun ad e => hs _ (h.own ad e).1 (h.own ad e).2 (h.row.lt ad e).2) (fun k hk => hs k hk.1.1 hk.1.2 hk.2.1), h.own⟩
theorem CO.new (h : CO w cb X A c vk vt key bt L) (g : Below w.heap.size w w') : CO w' cb X A c vk vt key bt L := h.grew (Grew.of_new (S := fun _ => False) g) fun _ _ _ _ h => h
/-- A store into the chain's own block. -/
theorem CO.set (h : CO w cb X A c vk vt key bt L) (i : Nat) (u : Value) : CO (w.setCell ⟨cb, i, none⟩ u) cb X A c vk vt key bt L :=
  h.grew (S := (· = cb)) ((Grew.refl (· = cb) w).set (p := ⟨cb, i, none⟩) (.inl rfl) u) fun _ _ h _ e => h e
theorem CO.mono (h : CO w cb X A c vk vt key bt L) (hx : ∀ k, X k → X' k) : CO w cb X' A c vk vt key bt L :=
  ⟨h.pk.mono fun k hk => ⟨⟨hx k hk.1.1, hk.1.2⟩, hk.2⟩, h.pt.mono fun k hk => ⟨⟨hx k hk.1.1, hk.1.2⟩, hk.2⟩, h.row.mono (Nat.le_refl _) fun k hk => ⟨hx k hk.1, hk.2⟩, fun ad e => ⟨hx _ (h.own ad e).1, (h.own ad e).2⟩⟩
theorem CO.key_reads (h : CO w cb X A c vk vt key bt L) : ∃ kA kn kc, vk = .slice kA kn kc ∧ key.length = kn ∧ kn ≤ kc ∧ kn ≤ 140737488351232 ∧ Reads w w.heap.size 1 kA kn (bv key) := h.pk.reads fun _ hk => hk.2.1
/-- A record more. -/
theorem CO.snoc {r : Rec} {v : Value} {vs : List Value} {N : Nat} (h : CO w cb X A c vk vt key bt L) (hN : N ≤ w.heap.size) (hcb : cb < w.heap.size) (h1 : L.length = L.length) (h2 : vs.length = L.length) (h4 : ∀ i (h : i < L.length) (h' : i < vs.length), Part w (RTag (fun k => X k ∧ k ≠ cb) A w) vs[i] L[i].tag)
    (hrow : Row w' 0 3 A' (L.length + 1) c' ((List.zipWith rcv L vs).flatten ++ rcv r v)) (hg : w.grownBy w' (A.map (·.block))) (hat : A' = A ∨ ∃ ad, A' = some ad ∧ w.heap.size ≤ ad.block) (hp : Part w (RTag (fun k => X k ∧ k ≠ cb) A w) v r.tag) : CO w' cb (fun k => X k ∨ N ≤ k) A' c' vk vt key bt (L ++ [r]) := by
  have hs := hg.size
  have key : ∀ k, RTag (fun k => X k ∧ k ≠ cb) A w k → RTag (fun k => (X k ∨ N ≤ k) ∧ k ≠ cb) A' w' k := fun k hk => ⟨⟨.inl hk.1.1, hk.1.2⟩, Nat.lt_of_lt_of_le hk.2.1 hs, fun ad e => by
    rcases hat with rfl | ⟨ad', e', hle⟩
    · exact hk.2.2 ad e
    · rw [e] at e'; cases e'; have := hk.2.1; omega⟩
  have keep : ∀ {v : Value} {l : List UInt8}, Part w (RTag (fun k => X k ∧ k ≠ cb) A w) v l → Part w' (RTag (fun k => (X k ∨ N ≤ k) ∧ k ≠ cb) A' w') v l := fun h => (h.keep fun k hk => hg.block k hk.2.1 (by
    cases A with
    | none => simp
    | some ad => simpa using fun e => hk.2.2 ad rfl e)).mono key
  refine ⟨keep h.pk, keep h.pt, ?_, fun ad e => ?_⟩
  · have := RowRec.snoc h1 h2 h4 hrow hg hat hp
    rw [List.length_append]
    exact this.mono (Nat.le_refl _) fun k hk => ⟨.inl hk.1, hk.2⟩
  · rcases hat with rfl | ⟨ad', e', hle⟩
    · exact ⟨.inl (h.own ad e).1, (h.own ad e).2⟩
    · rw [e] at e'; cases e'; exact ⟨.inr (by omega), by omega⟩
/-- The first record, and the rest of them, read. -/
theorem CO.first {f : Rec} (h : CO w cb X A c vk vt key bt (f :: L)) : ∃ g o v0 vs, A = some ⟨g, o, none⟩ ∧ g < w.heap.size ∧ L.length + 1 ≤ c ∧ vs.length = L.length ∧ w.cell? ⟨g, o, none⟩ = some (.int .i64 f.seq) ∧ w.cell? ⟨g, o + 1, none⟩ = some (.string f.text) ∧ w.cell? ⟨g, o + 2, none⟩ = some v0 ∧
    Part w (RTag (fun k => X k ∧ k ≠ cb) A w) v0 f.tag ∧ Reads w w.heap.size 3 (some ⟨g, o + 3, none⟩) L.length (List.zipWith rcv L vs).flatten ∧ ∀ i (h : i < L.length) (h' : i < vs.length), Part w (RTag (fun k => X k ∧ k ≠ cb) A w) vs[i] L[i].tag := by
  obtain ⟨vs, g1, g2, g3, g4⟩ := h.row
  match vs, g2 with
  | v0 :: vs, g2 =>
    have hc := g3.2.1
    obtain ⟨b, o, hA, hb, hcell⟩ := g3.reads.2 (by simp)
    subst hA
    have hl : vs.length = L.length := by simpa using g2
    simp only [List.zipWith_cons_cons, List.flatten_cons] at hcell
    refine ⟨b, o, v0, vs, rfl, hb, by simpa using hc, hl, hcell 0 _ rfl, hcell 1 _ rfl, hcell 2 _ rfl, g4 0 (by simp) (by simp), ⟨zip_length L vs hl, fun _ => ⟨b, o + 3, rfl, hb, fun j u hu => ?_⟩⟩, fun i hi hi' => g4 (i + 1) (by simpa using hi) (by simpa using hi')⟩
    have := hcell (j + 3) u (by rw [List.getElem?_append_right (by simp [rcv])]; simpa [rcv] using hu)
    rw [show o + 3 + j = o + (j + 3) by omega]
    exact this
/-- The rest in a row of its own. -/
theorem CO.rest {f : Rec} {v0 : Value} {vs : List Value} {N : Nat} (h : CO w cb X A c vk vt key bt (f :: L)) (hN : N ≤ w.heap.size) (hcb : cb < w.heap.size) (h2 : vs.length = L.length) (hp : Part w (RTag (fun k => X k ∧ k ≠ cb) A w) v0 f.tag) (h4 : ∀ i (h : i < L.length) (h' : i < vs.length), Part w (RTag (fun k => X k ∧ k ≠ cb) A w) vs[i] L[i].tag)
    (hrow : Row w' 0 3 A' L.length c' (List.zipWith rcv L vs).flatten) (hg : w.grownBy w' none) (hat : A' = none ∨ ∃ ad, A' = some ad ∧ w.heap.size ≤ ad.block) : CO w' cb (fun k => X k ∨ N ≤ k) A' c' vk v0 key f.tag L := by
  have hs := hg.size
  have hlt := hrow.lt
  have key : ∀ k, RTag (fun k => X k ∧ k ≠ cb) A w k → RTag (fun k => (X k ∨ N ≤ k) ∧ k ≠ cb) A' w' k := fun k hk => ⟨⟨.inl hk.1.1, hk.1.2⟩, Nat.lt_of_lt_of_le hk.2.1 hs, fun ad e => by
    rcases hat with rfl | ⟨ad', e', hle⟩
    · cases e
    · rw [e] at e'; cases e'; have := hk.2.1; omega⟩
  have keep : ∀ {v : Value} {l : List UInt8}, Part w (RTag (fun k => X k ∧ k ≠ cb) A w) v l → Part w' (RTag (fun k => (X k ∨ N ≤ k) ∧ k ≠ cb) A' w') v l := fun h => (h.keep fun k hk => hg.block k hk.2.1 (by simp)).mono key
  exact ⟨keep h.pk, keep hp, ⟨vs, rfl, h2, hrow, fun i hi hi' => keep (h4 i hi hi')⟩, fun ad e => by
    rcases hat with rfl | ⟨ad', e', hle⟩
    · cases e
    · rw [e] at e'; cases e'; exact ⟨.inr (by omega), by omega⟩⟩
end
end Go.Proofs.Ytbjlmodabiadfaa
