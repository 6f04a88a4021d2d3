/- PLAIN: chains that are right. -/
import Derived.Test.YtbjlmodabiadfaaHAudJoin
namespace Go.Proofs.Ytbjlmodabiadfaa
open Go.RowKit

/-- A chain that is right. -/
structure Good (key : List UInt8) (x : Ch) : Prop where
  key_ : x.key = key
  len : x.recs.length ≤ 12
  ver_ : ver x.key x.bseq x.btag x.recs = x.recs.length
  ok : ∀ r ∈ x.recs, r.text.size ≤ 200 ∧ r.tag.length = 32
  bt : x.btag.length ≤ 32
  bt2 : x.btag.length = 0 ∨ x.btag.length = 32
  b0 : 0 ≤ x.bseq
  top : x.bseq + x.recs.length ≤ 9223372036854775807
theorem end_lasts (x : Ch) : x.end_.seq = lastSeq x.bseq x.recs ∧ x.end_.tag = lastTag x.btag x.recs := by
  unfold Ch.end_ lastSeq lastTag
  cases x.recs.getLast? <;> exact ⟨rfl, rfl⟩
/-- The numbers of records that are right. -/
theorem ver_seq (key : List UInt8) : ∀ (l : List Rec) (b : Int) (t : List UInt8), ver key b t l = l.length → lastSeq b l = b + l.length ∧ ∀ r ∈ l, b + 1 ≤ r.seq ∧ r.seq ≤ b + l.length
  | [], b, t, _ => ⟨by simp [lastSeq], fun r hr => by cases hr⟩
  | x :: l, b, t, h => by
    by_cases hok : verOk key b t x
    · rw [ver_yes hok] at h
      obtain ⟨h1, h2⟩ := ver_seq key l x.seq x.tag (by simpa using h)
      have hx := hok.2.1
      rw [← (last_cons b t x l).1, h1, hx]
      refine ⟨by simp only [List.length_cons]; omega, fun r hr => ?_⟩
      rcases List.mem_cons.1 hr with rfl | hr
      · simp only [List.length_cons]; omega
      · have := h2 r hr
        rw [hx] at this
        simp only [List.length_cons]
        omega
    · rw [ver_no hok] at h
      simp at h
theorem Good.end_seq {key : List UInt8} {x : Ch} (h : Good key x) : x.end_.seq = x.bseq + x.recs.length := by
  rw [(end_lasts x).1]; exact (ver_seq _ _ _ _ h.ver_).1
theorem Good.end_tag {key : List UInt8} {x : Ch} (h : Good key x) : x.end_.tag.length ≤ 32 := by
  unfold Ch.end_
  cases hl : x.recs.getLast? with
  | none => exact h.bt
  | some r => exact Nat.le_of_eq (h.ok r (List.mem_of_getLast? hl)).2
theorem ver_snoc {key : List UInt8} {b : Int} {t : List UInt8} {l : List Rec} {r : Rec} (h : ver key b t l = l.length) (hr : verOk key (lastSeq b l) (lastTag t l) r) : ver key b t (l ++ [r]) = (l ++ [r]).length := by
  rw [ver_append_all key [r] l b t h, ver_yes hr, ver_nil]
  simp
theorem Good.new (key : List UInt8) : Good key ⟨key, 0, [], []⟩ := ⟨rfl, by simp, rfl, fun r hr => (by cases hr), by simp, .inl rfl, Int.le_refl _, by simp⟩
/-- A record more. -/
theorem Good.add {key : List UInt8} {x : Ch} {s : ByteArray} (h : Good key x) (hs : s.size ≤ 200) (hm : x.end_.seq < 9223372036854775807) :
    Good key (x.add s) ∧ (x.add s).end_ = x.next s ∧ (x.add s).recs.length = min (x.recs.length + 1) 12 := by
  have hok : verOk x.key (lastSeq x.bseq x.recs) (lastTag x.btag x.recs) (x.next s) := by
    rw [← (end_lasts x).1, ← (end_lasts x).2]
    exact ⟨by omega, rfl, rfl⟩
  have hv := ver_snoc h.ver_ hok
  have he := h.end_seq
  have hl := h.len
  have hmem : ∀ r ∈ x.recs ++ [x.next s], r.text.size ≤ 200 ∧ r.tag.length = 32 := fun r hr => by
    rcases List.mem_append.1 hr with hr | hr
    · exact h.ok r hr
    · simp at hr; subst hr; exact ⟨hs, length_tagB _ _ _ _⟩
  by_cases h12 : x.recs.length < 12
  · have e : x.add s = ⟨x.key, x.bseq, x.btag, x.recs ++ [x.next s]⟩ := trim_short (by simp; omega)
    rw [e]
    refine ⟨⟨h.key_, by simp; omega, hv, hmem, h.bt, h.bt2, h.b0, by simp; omega⟩, end_last _ _ _ _ _, by simp; omega⟩
  · obtain ⟨f, l, hfl⟩ : ∃ f l, x.recs = f :: l := by
      cases hx : x.recs with
      | nil => rw [hx] at h12; simp at h12
      | cons f l => exact ⟨f, l, rfl⟩
    have hll : l.length = 11 := by rw [hfl] at h12 hl; simp at h12 hl; omega
    have e : x.add s = ⟨x.key, f.seq, f.tag, l ++ [x.next s]⟩ := by
      show Ch.trim x.key x.bseq x.btag (x.recs ++ [x.next s]) = _
      rw [hfl]
      exact trim_full (by simp; omega)
    rw [hfl, List.cons_append] at hv hmem
    have hf : verOk x.key x.bseq x.btag f := Classical.byContradiction fun hn => by rw [ver_no hn] at hv; simp at hv
    rw [ver_yes hf] at hv
    have hfs := hf.2.1
    have hb0 := h.b0
    rw [hfl] at he
    simp only [List.length_cons, hll] at he
    rw [e]
    refine ⟨⟨h.key_, by simp; omega, by simpa using hv, fun r hr => hmem r (List.mem_cons_of_mem _ hr), Nat.le_of_eq (hmem f (by simp)).2, .inr (hmem f (by simp)).2, by show 0 ≤ f.seq; omega, ?_⟩, end_last _ _ _ _ _, ?_⟩
    · simp only [List.length_append, hll, List.length_cons, List.length_nil]
      rw [hfs]; omega
    · rw [hfl]; simp [hll]
/-- Another record at place k: just those ahead of it are told. -/
theorem ver_turned {key : List UInt8} {b : Int} {t : List UInt8} {L : List Rec} {k : Nat} (hv : ver key b t L = L.length) (hk : k < L.length) : verOk key (lastSeq b (L.take k)) (lastTag t (L.take k)) L[k] ∧
    ∀ r, ¬ verOk key (lastSeq b (L.take k)) (lastTag t (L.take k)) r → ver key b t (L.set k r) = k := by
  have hl : (L.take k).length = k := by simp; omega
  have hpre : ver key b t (L.take k) = (L.take k).length := by
    have hle := ver_le key (L.take k) b t
    rcases Nat.lt_or_ge (ver key b t (L.take k)) (L.take k).length with h | h
    · have := ver_append_lt key (L.drop k) _ _ _ h
      rw [List.take_append_drop] at this
      omega
    · omega
  refine ⟨?_, fun r hr => ?_⟩
  · apply Classical.byContradiction
    intro hn
    have h := ver_append_all key (L.drop k) _ _ _ hpre
    rw [List.take_append_drop, List.drop_eq_getElem_cons hk, ver_no hn] at h
    omega
  · have e : L.set k r = L.take k ++ r :: L.drop (k + 1) := by rw [List.set_eq_take_append_cons_drop, if_pos hk]
    rw [e, ver_append_all key _ _ _ _ hpre, ver_no hr, hl]
    rfl
end Go.Proofs.Ytbjlmodabiadfaa
