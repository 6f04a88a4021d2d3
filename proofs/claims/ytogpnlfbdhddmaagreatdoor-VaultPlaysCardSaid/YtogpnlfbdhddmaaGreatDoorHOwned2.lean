/- Rows that their owner may write over, listed. -/
import Derived.Test.YtogpnlfbdhddmaaGreatDoorGDig
import Derived.Test.YtogpnlfbdhddmaaGreatDoorGMem
namespace Go.Proofs.YtogpnlfbdhddmaaGreatDoor
open Go.RowKit

def Apart (A B : Option Addr) : Prop := ∀ a b, A = some a → B = some b → a.block ≠ b.block
theorem Apart.symm {A B : Option Addr} (h : Apart A B) : Apart B A := fun a b ea eb e => h b a eb ea e.symm
theorem apart_lt {A B : Option Addr} {N : Nat} (h : ∀ a, A = some a → a.block < N) (k : ∀ b, B = some b → N ≤ b.block) : Apart A B := fun a b ea eb => by
  have := h a ea
  have := k b eb
  omega
theorem owned_lit {w : World} {t : TypeId} {R : List Sl} (hr : ∀ x ∈ R, ∃ base xs, Row w base 1 x.1 x.2.1 x.2.2 xs) (ha : R.Pairwise fun x y => Apart x.1 y.1) : OwnedRows (w.alloc (.cells (R.map Sl.val).toArray t)) w.heap.size R where
  cell i x h := by
    rw [cell?_new, List.getElem?_toArray, List.getElem?_map, h]; rfl
  row x hx := by
    obtain ⟨base, xs, h⟩ := hr x hx
    exact ⟨base, xs, h.alloc _⟩
  apart i j x y a b hi hj hij ea eb _ _ := by
    obtain ⟨h1, e1⟩ := List.getElem?_eq_some_iff.1 hi
    obtain ⟨h2, e2⟩ := List.getElem?_eq_some_iff.1 hj
    have hp := List.pairwise_iff_getElem.1 ha
    rcases Nat.lt_or_gt_of_ne hij with h | h
    · have := hp i j h1 h2 h
      rw [e1, e2] at this
      exact this a b ea eb
    · have := hp j i h2 h1 h
      rw [e1, e2] at this
      exact (this.symm) a b ea eb
  outer := by
    rintro ⟨x, hx, a, ea, _, e⟩
    obtain ⟨base, xs, h⟩ := hr x hx
    have := (h.lt a ea).2
    omega
/-- What the call leaves. -/
theorem owned_grew {w w' : World} {t : TypeId} {R : List Sl} {S : Nat → Prop} (h : Only (blocksOf R) (w.alloc (.cells (R.map Sl.val).toArray t)) w') (hs : ∀ x ∈ R, ∀ a, x.1 = some a → S a.block) : Grew S w w' := by
  refine (Grew.of_new ((Below.refl _ _).alloc (Nat.le_refl _) _)).trans ((Grew.of_only h).mono fun k _ hk => ?_)
  obtain ⟨x, hx, a, ea, _, e⟩ := hk
  rw [e]
  exact hs x hx a ea
end Go.Proofs.YtogpnlfbdhddmaaGreatDoor
