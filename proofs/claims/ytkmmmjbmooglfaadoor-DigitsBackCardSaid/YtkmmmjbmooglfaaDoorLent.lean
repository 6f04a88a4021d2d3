/- THE WALKS of the laws' own helpers: Lent, Kept, Owned. -/
import Derived.Test.YtkmmmjbmooglfaaDoorRow
import Derived.Test.YtkmmmjbmooglfaaDoorRows
import Derived.Deep.QuietTactic
import Derived.BigQuiet
namespace Go.Proofs.YtkmmmjbmooglfaaDoor
open Go.RowKit

theorem byte_info : (Tryd.prog.info? 5).map (fun i => (i.zero, i.size, i.bytes)) = some (some (.int .u8 0), 1, 1) := by kernel_rfl
theorem byte_size : (Tryd.prog.info? 5).map (·.size) = some 1 := by kernel_rfl
theorem made_row (w : World) (z : Value) (t : TypeId) (n k : Nat) (hk : n ≤ k) (hm : k ≤ maxLen) : Row (w.alloc (.cells (madeCells #[z] k) t)) w.heap.size 1 (some ⟨w.heap.size, 0, none⟩) n k (List.replicate n z) := by
  refine ⟨by simp, hk, hm, (fun e => by cases e), fun ad e => ?_⟩
  simp only [Option.some.injEq] at e
  subst e
  refine ⟨_, 0, rfl, Nat.le_refl _, by simp, fun j hj => ?_, fun j u hu => ?_⟩
  · rw [Nat.zero_add, cell?_new, frozen?_new]
    exact ⟨by simp [madeCells]; omega, rfl⟩
  · rw [Nat.zero_add, cell?_new]
    obtain ⟨hj, hv⟩ := List.getElem?_eq_some_iff.1 hu
    simp only [List.length_replicate] at hj
    simp [madeCells, Nat.mod_one, show j < k by omega] at hv ⊢
    exact hv

end Go.Proofs.YtkmmmjbmooglfaaDoor
