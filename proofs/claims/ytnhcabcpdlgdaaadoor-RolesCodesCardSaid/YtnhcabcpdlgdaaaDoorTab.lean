/- A number's digits by the library: the table that it reads, as it is laid. -/
import Derived.Test.YtnhcabcpdlgdaaaDoorShelf
import Derived.Test.YtnhcabcpdlgdaaaDoorDecP
import Derived.Test.YtnhcabcpdlgdaaaDoorRows
import Derived.WalkKit
import Derived.WalkSmall
import Derived.Lib.ItoaMem
import Derived.Lib.AppendIntMem
import Derived.Lib.LaidTab
import Derived.Stop.LaidErr
namespace Go.Proofs.YtnhcabcpdlgdaaaDoor
open Go.RowKit

/-- The library's table of powers of ten reads as it is laid. -/
def Tab (w : World) : Prop := Lib.TabIs Tryd.prog w "internal/strconv.uint64pow10" .u64 Lib.pow10Tab
theorem tab_named : Tryd.prog.globalNamed "internal/strconv.uint64pow10" = some 1 := by kernel_rfl
theorem Tab.lt {w : World} (h : Tab w) : 1 < w.heap.size := by
  unfold Tab Lib.TabIs World.var? at h
  rw [tab_named] at h
  simp only [Option.bind_some] at h
  cases e : w.heap[1]? with
  | none => rw [e] at h; cases h
  | some _ => exact (Array.getElem?_eq_some_iff.1 e).1
theorem Tab.below {w w' : World} (h : Tab w) (hb : Below w.heap.size w w') : Tab w' := var?_below hb tab_named h.lt h
theorem Tab.drewN {w : World} (h : Tab w) (n : Nat) : Tab (w.drewN n) := h.below (below_drewN (Below.refl _ _) n)

/-- A number's digits. -/
theorem Itoa_any (n : Nat) (w : World) (hn : n ≤ 9223372036854775807) (ht : Tab w) : Calls Tryd.prog 44 #[.int .i64 n] w fun e w' => e = .returned (.string ⟨(dec n).toArray⟩) ∧ Below w.heap.size w w' := by
  refine (Tryd.strconv_Itoa n (by omega) (by omega) w ht).mono fun e w' ⟨he, k, os, hw⟩ => ⟨?_, ?_⟩
  · rw [he, Lib.itoa_nonneg]; rfl
  · rw [hw]; exact Lib.below_grow _ w (Nat.le_refl _) k os
theorem tab_of {a b : String × DataW Unit} {rest : List (String × DataW Unit)} {W : World} (h : laidMet Tryd.prog (a :: b :: ("internal/strconv.uint64pow10", Lib.tabData .u64 Lib.pow10Tab) :: rest) W) : Tab W :=
  Lib.tabIs_of_head tab_named (by kernel_rfl) Tryd.underlying116 Tryd.underlying74 (by kernel_rfl) (by kernel_rfl) h.tail.tail
end Go.Proofs.YtnhcabcpdlgdaaaDoor
