/- GENERAL: what values come to, stable while the world grows (for XFacts): the part without slices. -/
import Derived.Test.YtkmmmjbmooglfaaDoorFacts
import Derived.Test.YtkmmmjbmooglfaaDoorMem
namespace Go.Proofs.YtkmmmjbmooglfaaDoor
open Go.RowKit

/-- Nothing old has turned. -/
def Grows (w w' : World) : Prop := Below w.heap.size w w'
theorem grows_refl (w : World) : Grows w w := Below.refl _ _
theorem grows_trans (x y z : World) (h : Grows x y) (k : Grows y z) : Grows x z := thenB h k
def eqv (c : Value) (v : Value) (_ : World) : Prop := v = c
def anyv (_ : Value) (_ : World) : Prop := True
/-- A list of facts, by number. -/
def nthF (Fs : List (Value → World → Prop)) (j : Nat) : Value → World → Prop := Fs.getD j anyv
def Stable (f : Value → World → Prop) : Prop := ∀ v w w', f v w → Grows w w' → f v w'
theorem st_nil : ∀ f ∈ ([] : List (Value → World → Prop)), Stable f := fun _ h => by cases h
theorem st_cons {f : Value → World → Prop} {Fs : List (Value → World → Prop)} (h : Stable f) (k : ∀ g ∈ Fs, Stable g) : ∀ g ∈ f :: Fs, Stable g := fun g hg => by
  rcases List.mem_cons.1 hg with rfl | hg
  · exact h
  · exact k g hg
theorem nth_stable {Fs : List (Value → World → Prop)} (h : ∀ f ∈ Fs, Stable f) : ∀ j v w w', nthF Fs j v w → Grows w w' → nthF Fs j v w' := fun j v w w' hf hg => by
  unfold nthF at *
  rw [List.getD_eq_getElem?_getD] at *
  cases e : Fs[j]? with
  | none => trivial
  | some f =>
    rw [e] at hf
    exact h f (List.mem_of_getElem? e) v w w' hf hg
theorem st_eqv (c : Value) : Stable (eqv c) := fun _ _ _ h _ => h
theorem st_any : Stable anyv := fun _ _ _ h _ => h
end Go.Proofs.YtkmmmjbmooglfaaDoor
