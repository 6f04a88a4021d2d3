/- Audit: what a chain answers that is asked to add a text. -/
import Derived.Test.YtbjlmodabiadfaaHChain6
namespace Go.Proofs.Ytbjlmodabiadfaa
open Go.RowKit

/-- What a chain answers that is asked to add a text. -/
def Ch.ans (x : Ch) (s : ByteArray) : Rec := if s.size ≤ 200 ∧ x.end_.seq < 9223372036854775807 then x.next s else ⟨0, ⟨#[]⟩, []⟩
def Ch.err (x : Ch) (s : ByteArray) : Int := if s.size ≤ 200 ∧ x.end_.seq < 9223372036854775807 then 0 else 2
def AnsOut (cb : Nat) (X : Nat → Prop) (x : Ch) (s : ByteArray) (w : World) (e : Ending) (w' : World) : Prop :=
  ∃ A c X', e = .returned (.tuple #[.agg #[.int .i64 (x.ans s).seq, .string (x.ans s).text, .slice A (x.ans s).tag.length c], .int .i64 (x.err s)]) ∧ Row w' w.heap.size 1 A (x.ans s).tag.length c (bv (x.ans s).tag) ∧ ChainAt w' cb X' (x.put s) ∧ Grew (fun k => k = cb ∨ X k) w w' ∧
    (∀ k, X' k → (X k ∨ w.heap.size ≤ k) ∧ k < w'.heap.size ∧ ∀ ad, A = some ad → k ≠ ad.block) ∧ ∀ ad, A = some ad → ad.block ≠ cb
theorem Ans_any (cb : Nat) (X : Nat → Prop) (key : List UInt8) (x : Ch) (s : ByteArray) (w : World) (h : ChainAt w cb X x) (hg : Good key x) (hk : key.length ≤ 140737488351232) (hs : s.size ≤ 140737488351232) :
    Calls Try.prog 36 #[.pointer (some ⟨cb, 0, none⟩), .string s] w (AnsOut cb X x s w) := by
  have he := hg.end_seq
  have hb := hg.b0
  have ht := hg.top
  by_cases hc : s.size ≤ 200 ∧ x.end_.seq < 9223372036854775807
  · refine (Add_yes cb X x s w h hc.1 (by omega) hc.2 hg.len (by rw [hg.key_]; exact hk) (Nat.le_trans hg.end_tag (by decide))).mono ?_
    rintro e w' ⟨A, c, X', rfl, h1, h2, h3, h4, h5⟩
    have e1 : x.ans s = x.next s := if_pos hc
    have e2 : x.err s = 0 := if_pos hc
    have e3 : x.put s = x.add s := if_pos hc
    unfold AnsOut
    rw [e1, e2, e3]
    exact ⟨A, c, X', rfl, h1, h2, h3, h4, h5⟩
  · refine (Add_no cb X x s w h (by omega) hs).mono ?_
    rintro e w' ⟨rfl, hb⟩
    have e1 : x.ans s = ⟨0, ⟨#[]⟩, []⟩ := if_neg hc
    have e2 : x.err s = 2 := if_neg hc
    have e3 : x.put s = x := if_neg hc
    unfold AnsOut
    rw [e1, e2, e3]
    exact ⟨none, 0, fun k => X k ∧ k < w.heap.size, rfl, Row.nil_ _ _ _, h.tight.new hb, Grew.of_new hb, fun k hk => ⟨.inl hk.1, Nat.lt_of_lt_of_le hk.2 hb.size, fun ad e => by cases e⟩, fun ad e => by cases e⟩
/-- One record against its like. -/
theorem same_pair (r : Rec) (v v2 : Value) (w : World) (hp : Part w (· < w.heap.size) v r.tag) (hp2 : Part w (· < w.heap.size) v2 r.tag) :
    Calls Try.prog 31 #[.slice (some ⟨w.heap.size, 0, none⟩) 1 1, .slice (some ⟨w.heap.size + 1, 0, none⟩) 1 1] ((w.alloc (.cells #[.int .i64 r.seq, .string r.text, v] 51)).alloc (.cells #[.int .i64 r.seq, .string r.text, v2] 51)) fun e w' => e = .returned (.bool true) ∧ Below w.heap.size w w' := by
  have hz : (w.alloc (.cells #[.int .i64 r.seq, .string r.text, v] 51)).heap.size = w.heap.size + 1 := by simp
  have hL1 := recs_lit1 (t := 51) hp fun k hk => hk
  have hp2' := (hp2.keep (w' := w.alloc (.cells #[.int .i64 r.seq, .string r.text, v] 51)) fun k hk => Below.heap_alloc w _ k hk).mono (R' := (· < (w.alloc (.cells #[.int .i64 r.seq, .string r.text, v] 51)).heap.size)) fun k hk => by omega
  have hL2 := recs_lit1 (t := 51) hp2' fun k hk => hk
  rw [hz] at hL2
  have hL1' := hL1.keep (w' := (w.alloc (.cells #[.int .i64 r.seq, .string r.text, v] 51)).alloc (.cells #[.int .i64 r.seq, .string r.text, v2] 51)) fun k hk => Below.heap_alloc _ _ k (by rcases hk with hk | hk <;> omega)
  refine (rSame_yes _ 1 _ 1 [r] _ _ _ hL1' hL2 (fun k hk => by simp at hk ⊢; omega) (fun k hk => by simp at hk ⊢; omega) (by simp)).mono ?_
  rintro e w' ⟨rfl, q, rfl⟩
  exact ⟨rfl, below_drewN (((Below.refl _ _).alloc (Nat.le_refl _) _).alloc (by simp) _) q⟩
end Go.Proofs.Ytbjlmodabiadfaa
