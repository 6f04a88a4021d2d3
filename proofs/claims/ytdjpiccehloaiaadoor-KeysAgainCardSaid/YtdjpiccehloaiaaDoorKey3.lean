/- THE WALKS of keys: a tenant's Once; Key. -/
import Derived.Test.YtdjpiccehloaiaaDoorKey2
import Derived.Conc.MuLone
namespace Go.Proofs.YtdjpiccehloaiaaDoor
open Go.RowKit

theorem ten_enter (args : Array Value) (w : World) : (callFunc 20 args).run Tryd.prog w = .ok (.enter 20 args) w :=
  Go.MuLone.run_callFunc_enter Tryd.func20 (by kernel_rfl) rfl args w
/-- What a ring owns behind more work. -/
def OwnX (X : Nat → Prop) (w w' : World) (k : Nat) : Prop := (X k ∧ k < w.heap.size) ∨ (w.heap.size ≤ k ∧ k < w'.heap.size)
/-- Behind a tenant's Once. -/
def TenDone (rb t : Nat) (X : Nat → Prop) (m : List UInt8) (w : World) (e : Ending) (w' : World) : Prop :=
  e = .returned (.tuple #[]) ∧ RingAt w' rb (OwnX X w w') m ∧ (∃ A c, w'.cell? ⟨rb, 4 * t + 4, none⟩ = some (.slice A 32 c) ∧ Row w' 0 1 A 32 c (bv (tenK m t))) ∧ Grew (· = rb) w w'
theorem set4 {cs : Array Value} {t j : Nat} {a b c d : Value} (h : 4 * t + 4 < cs.size) :
    ((((cs.setIfInBounds (4 * t + 2) a).setIfInBounds (4 * t + 4) b).setIfInBounds (4 * t + 1) c).setIfInBounds (4 * t + 2) d)[j]? =
      if j = 4 * t + 2 then some d else if j = 4 * t + 1 then some c else if j = 4 * t + 4 then some b else cs[j]? := by
  simp only [Array.getElem?_setIfInBounds, Array.size_setIfInBounds]
  by_cases h1 : j = 4 * t + 2
  · subst h1; rw [if_pos rfl, if_pos (by omega), if_pos rfl]
  rw [if_neg (fun e => h1 e.symm), if_neg h1]
  by_cases h2 : j = 4 * t + 1
  · subst h2; rw [if_pos rfl, if_pos (by omega), if_pos rfl]
  rw [if_neg (fun e => h2 e.symm), if_neg h2]
  by_cases h3 : j = 4 * t + 4
  · subst h3; rw [if_pos rfl, if_pos (by omega), if_pos rfl]
  rw [if_neg (fun e => h3 e.symm), if_neg h3, if_neg (fun e => h1 e.symm)]
theorem set2 {cs : Array Value} {t j : Nat} {a b : Value} (h : 4 * t + 4 < cs.size) :
    ((cs.setIfInBounds (4 * t + 2) a).setIfInBounds (4 * t + 4) b)[j]? = if j = 4 * t + 4 then some b else if j = 4 * t + 2 then some a else cs[j]? := by
  simp only [Array.getElem?_setIfInBounds, Array.size_setIfInBounds]
  by_cases h3 : j = 4 * t + 4
  · subst h3; rw [if_pos rfl, if_pos (by omega), if_pos rfl]
  rw [if_neg (fun e => h3 e.symm), if_neg h3]
  by_cases h1 : j = 4 * t + 2
  · subst h1; rw [if_pos rfl, if_pos (by omega), if_pos rfl]
  rw [if_neg (fun e => h1 e.symm), if_neg h1]
theorem size_of_at {cs : Array Value} {j : Nat} {v : Value} (h : cs[j]? = some v) : j < cs.size := (Array.getElem?_eq_some_iff.1 h).1
set_option maxHeartbeats 2000000 in
theorem once_ten (rb t g4 g5 g12 : Nat) (X : Nat → Prop) (m : List UInt8) (w : World) (ht : t ≤ 64) (hm : m.length ≤ 64) (h : RingAt w rb X m)
    (c4 : w.cell? ⟨g4, 0, none⟩ = some (.pointer (some ⟨rb, 0, none⟩))) (c5 : w.cell? ⟨g5, 0, none⟩ = some (.int .i64 t)) (c12 : w.cell? ⟨g12, 0, none⟩ = some (.pointer (some ⟨rb, 4 * t + 1, none⟩)))
    (l4 : g4 < w.heap.size) (l5 : g5 < w.heap.size) (l12 : g12 < w.heap.size) (_n4 : g4 ≠ rb) (_n5 : g5 ≠ rb) (_n12 : g12 ≠ rb) :
    Calls Tryd.prog 19 #[.pointer (some ⟨rb, 4 * t + 1, none⟩), .func (.func 20) #[] #[.pointer (some ⟨g4, 0, none⟩), .pointer (some ⟨g5, 0, none⟩), .pointer (some ⟨g12, 0, none⟩)]] w (TenDone rb t X m w) := by
  have hw := h.within
  obtain ⟨cs, A, n, c, hb, h0, hr, ha, hT⟩ := hw
  have hlr := hb.lt
  obtain ⟨hs, hd⟩ := hT t (by omega)
  rcases hd with ⟨hd0, v, hv⟩ | ⟨hd1, A1, c1, hv1, hr1, ha1⟩
  · have hsz := size_of_at hv
    have hF := ten_any rb t g4 g5 g12 (cs.setIfInBounds (4 * t + 2) (.int .i32 1)) m A n c (w.setCell ⟨rb, 4 * t + 2, none⟩ (.int .i32 1)) ht hm (hb.set (4 * t + 2) _)
      (by rw [Array.getElem?_setIfInBounds, if_neg (by omega)]; exact h0) (hr.far (fun ad e => (ha ad e).2) _) ⟨v, by rw [Array.getElem?_setIfInBounds, if_neg (by omega)]; exact hv⟩
      (by rw [World.cell?_setCell_other _ _ _ _ (by simp only [ne_eq, Addr.mk.injEq]; omega)]; exact c4) (by rw [World.cell?_setCell_other _ _ _ _ (by simp only [ne_eq, Addr.mk.injEq]; omega)]; exact c5)
      (by rw [World.cell?_setCell_other _ _ _ _ (by simp only [ne_eq, Addr.mk.injEq]; omega)]; exact c12) (by simpa using l4) (by simpa using l5) (by simpa using l12)
    have hD := Once.Do_first rb (4 * t + 1) 20 #[] #[.pointer (some ⟨g4, 0, none⟩), .pointer (some ⟨g5, 0, none⟩), .pointer (some ⟨g12, 0, none⟩)]
      (fun w2 => ∃ A2 c2, Row w2 w.heap.size 1 A2 32 c2 (bv (tenK m t)) ∧ Blk w2 rb 59 ((cs.setIfInBounds (4 * t + 2) (.int .i32 1)).setIfInBounds (4 * t + 4) (.slice A2 32 c2)) ∧ Grew (· = rb) w w2) w
      ((hb.cell _).trans hd0) ((hb.cell _).trans hs) (hb.frozen _) (fun w => ten_enter _ w) (hF.mono fun e w2 ⟨he, A2, c2, e1, e2, e3⟩ => ⟨he, ⟨A2, c2, by simpa using e1, e2, ((Grew.refl (· = rb) w).set (p := ⟨rb, 4 * t + 2, none⟩) (.inl rfl) _).trans e3⟩,
        (e2.cell _).trans (by rw [set2 hsz, if_neg (by omega), if_neg (by omega)]; exact hd0),
        (e2.cell _).trans (by rw [set2 hsz, if_neg (by omega), if_pos (by omega)]), e2.frozen _, e2.frozen _⟩)
    refine hD.mono fun e w' ⟨he, w2, ⟨A2, c2, e1, e2, e3⟩, _, _, hw'⟩ => ⟨he, ?_, ?_, ?_⟩
    · have hb' : Blk w' rb 59 ((((cs.setIfInBounds (4 * t + 2) (.int .i32 1)).setIfInBounds (4 * t + 4) (.slice A2 32 c2)).setIfInBounds (4 * t + 1) (.int .u32 1)).setIfInBounds (4 * t + 2) (.int .i32 0)) := by rw [hw']; exact (e2.drew.set (4 * t + 1) (.int .u32 1)).set (4 * t + 2) (.int .i32 0)
      have hg' : Grew (· = rb) w w' := by rw [hw']; exact (e3.drew.set (p := ⟨rb, 4 * t + 1, none⟩) (.inl rfl) _).set (p := ⟨rb, 4 * t + 2, none⟩) (.inl rfl) _
      have hr' : Row w' w.heap.size 1 A2 32 c2 (bv (tenK m t)) := by
        rw [hw']; exact (e1.drew.far (fun ad e => by have := (e1.lt ad e).1; show ad.block ≠ rb; omega) _).far (fun ad e => by have := (e1.lt ad e).1; show ad.block ≠ rb; omega) _
      have hX : ∀ k, (X k ∧ k < w.heap.size) → k ≠ rb → OwnX X w w' k := fun k hk _ => .inl hk
      refine ⟨_, A, n, c, hb', ?_, hr.grew hg' (fun ad e => (ha ad e).2), fun ad e => ⟨.inl (ha ad e).1, (ha ad e).2⟩, fun t' ht' => ?_⟩
      · rw [set4 hsz, if_neg (by omega), if_neg (by omega), if_neg (by omega)]; exact h0
      · by_cases htt : t' = t
        · subst htt
          refine ⟨by rw [set4 hsz, if_pos rfl], .inr ⟨by rw [set4 hsz, if_neg (by omega), if_pos rfl], A2, c2, by rw [set4 hsz, if_neg (by omega), if_neg (by omega), if_pos rfl], hr'.mono (Nat.zero_le _), fun ad e => ⟨.inr (hr'.lt ad e), ?_⟩⟩⟩
          have := (hr'.lt ad e).1; omega
        · obtain ⟨q1, q2⟩ := hT t' ht'
          refine ⟨by rw [set4 hsz, if_neg (by omega), if_neg (by omega), if_neg (by omega)]; exact q1, ?_⟩
          rw [set4 hsz, if_neg (by omega), if_neg (by omega), if_neg (by omega), set4 hsz, if_neg (by omega), if_neg (by omega), if_neg (by omega)]
          rcases q2 with q2 | ⟨q2, A3, c3, q3, q4, q5⟩
          · exact .inl q2
          · exact .inr ⟨q2, A3, c3, q3, q4.grew hg' (fun ad e => (q5 ad e).2), fun ad e => ⟨.inl (q5 ad e).1, (q5 ad e).2⟩⟩
    · have hb' : Blk w' rb 59 ((((cs.setIfInBounds (4 * t + 2) (.int .i32 1)).setIfInBounds (4 * t + 4) (.slice A2 32 c2)).setIfInBounds (4 * t + 1) (.int .u32 1)).setIfInBounds (4 * t + 2) (.int .i32 0)) := by rw [hw']; exact (e2.drew.set (4 * t + 1) (.int .u32 1)).set (4 * t + 2) (.int .i32 0)
      have hr' : Row w' w.heap.size 1 A2 32 c2 (bv (tenK m t)) := by
        rw [hw']; exact (e1.drew.far (fun ad e => by have := (e1.lt ad e).1; show ad.block ≠ rb; omega) _).far (fun ad e => by have := (e1.lt ad e).1; show ad.block ≠ rb; omega) _
      exact ⟨A2, c2, (hb'.cell _).trans (by rw [set4 hsz, if_neg (by omega), if_neg (by omega), if_pos rfl]), hr'.mono (Nat.zero_le _)⟩
    · rw [hw']; exact (e3.drew.set (p := ⟨rb, 4 * t + 1, none⟩) (.inl rfl) _).set (p := ⟨rb, 4 * t + 2, none⟩) (.inl rfl) _
  · refine (Once.Do_done rb (4 * t + 1) _ w ((hb.cell _).trans hd1)).mono fun e w' ⟨he, hw⟩ => ⟨he, ?_, ?_, ?_⟩
    · rw [← hw]; exact h.mono fun k hk hx => .inl ⟨hx, hk⟩
    · rw [← hw]; exact ⟨A1, c1, (hb.cell _).trans hv1, hr1⟩
    · rw [← hw]; exact Grew.refl _ _
end Go.Proofs.YtdjpiccehloaiaaDoor
