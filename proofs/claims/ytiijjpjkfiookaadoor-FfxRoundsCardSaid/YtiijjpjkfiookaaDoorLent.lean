/- THE WALKS of the laws' own helpers: Lent, Kept, Owned. -/
import Derived.Test.YtiijjpjkfiookaaDoorRow
import Derived.Test.YtiijjpjkfiookaaDoorRows
import Derived.Deep.QuietTactic
import Derived.BigQuiet
namespace Go.Proofs.YtiijjpjkfiookaaDoor
open Go.RowKit

theorem byte_info : (Tryd.prog.info? 5).map (fun i => (i.zero, i.size, i.bytes)) = some (some (.int .u8 0), 1, 1) := by kernel_rfl
theorem byte_size : (Tryd.prog.info? 5).map (·.size) = some 1 := by kernel_rfl
theorem made_row (w : World) (z : Value) (t : TypeId) (n k : Nat) (hk : n ≤ k) (hm : k ≤ maxLen) : Row (w.alloc (.cells (madeCells #[z] k) t)) w.heap.size 1 (some ⟨w.heap.size, 0, none⟩) n k (List.replicate n z) := by
  refine ⟨by simp, hk, hm, (fun e => by cases e), fun ad e => ?_⟩
  simp only [Option.some.injEq] at e
  subst e
  refine ⟨_, 0, rfl, Nat.le_refl _, by simp, fun j hj => ?_, fun j u hu => ?_⟩
  · rw [Nat.zero_add, cell?_new, frozen?_new]
    exact ⟨by simp [madeCells]; omega, rfl⟩
  · rw [Nat.zero_add, cell?_new]
    obtain ⟨hj, hv⟩ := List.getElem?_eq_some_iff.1 hu
    simp only [List.length_replicate] at hj
    simp [madeCells, Nat.mod_one, show j < k by omega] at hv ⊢
    exact hv

set_option maxRecDepth 100000 in
set_option maxHeartbeats 1000000 in
theorem Lent_any (A : Option Addr) (n c B : Nat) (l : List UInt8) (w : World) (hr : Reads w B 1 A n (bv l)) (hB : B ≤ w.heap.size) (hn : n ≤ 140737488351232) :
    Calls Tryd.prog 23 #[.slice A n c] w fun e w' => e = .returned (.slice (some ⟨w.heap.size, 0, none⟩) n (n + 1)) ∧ Row w' w.heap.size 1 (some ⟨w.heap.size, 0, none⟩) (n + 1) (n + 1) (bv (l ++ [77])) ∧ Below w.heap.size w w' := by
  obtain ⟨i0, hi, hz0, hz1, hz2⟩ := info_parts byte_info
  have hmk := fun W => run_make (P := Tryd.prog) W 32 5 i0 (.int .u8 0) Tryd.underlying32 hi hz0 .i64 .i64 n ((n : Int) + 1) (by omega) (by omega) (by rw [hz2]; omega) (by omega)
  rw [hz1, show ((n : Int) + 1).toNat = n + 1 by omega, show ((n : Int)).toNat = n by omega, Nat.mul_one] at hmk
  have hll : l.length = n := by have := hr.1; rw [length_bv] at this; omega
  have hrow0 := made_row w (.int .u8 0) 5 n (n + 1) (by omega) (by unfold maxLen; omega)
  have hr0 := hr.alloc hB (.cells (madeCells #[.int .u8 0] (n + 1)) 5)
  have HLL := Lib.hid hll; clear hll
  go_enter Tryd.func23, Tryd.ntmps23
  go_wp2_with (with_reducible refine wpList_copy_any rfl (.tmp 10) (.tmp 11) _ _ rfl Tryd.underlying32 byte_size rfl hrow0 rfl hr0 (bv_one l) ?_; intro w2 hrow2 honly2; obtain ⟨u0, hc0⟩ := Option.isSome_iff_exists.1 (hrow2.at_.2.2.1 n (by omega)).1; have hf0 := (hrow2.at_.2.2.1 n (by omega)).2; rw [Nat.zero_add] at hc0 hf0)
  go_ret
  refine ⟨rfl, ?_, ?_⟩
  · have h1 := hrow2.ext1 (by omega) (.int .u8 77)
    rw [Nat.zero_add] at h1
    have e : bv (l ++ [77]) = (bv l).take (Nat.min n n) ++ (List.replicate n (Value.int .u8 0)).drop (Nat.min n n) ++ [Value.int .u8 77] := by
      rw [show Nat.min n n = n from Nat.min_self n, List.take_of_length_le (by rw [length_bv, HLL.out]; omega), List.drop_of_length_le (by simp), List.append_nil, bv_append]
      rfl
    rw [e]
    exact h1
  · exact ((Below.refl _ _).alloc (Nat.le_refl _) _).trans ((honly2.below (B := w.heap.size) (fun k hk => by omega)).setCell (Nat.le_refl _) _)

set_option maxRecDepth 100000 in
set_option maxHeartbeats 1000000 in
theorem Kept_yes (A : Option Addr) (n c B B' g : Nat) (l : List UInt8) (w : World) (hr : Reads w B 1 (some ⟨g, 0, none⟩) (n + 1) (bv (l ++ [77]))) (hr2 : Reads w B' 1 A n (bv l)) (hn : n ≤ 140737488351232) :
    Calls Tryd.prog 24 #[.slice (some ⟨g, 0, none⟩) n (n + 1), .slice A n c] w fun e w' => e = .returned (.bool true) ∧ w = w' := by
  have hll : l.length = n := by have := hr2.1; rw [length_bv] at this; omega
  have hr1 := hr.take (k := n) (by omega)
  rw [Nat.mul_one, bv_append, List.take_append_of_le_length (by rw [length_bv]; omega), List.take_of_length_le (by rw [length_bv]; omega)] at hr1
  have hcv1 := run_conv_bytes (P := Tryd.prog) Tryd.underlying32 Tryd.underlying5 Tryd.underlying9 (cap := n + 1) hr1
  have hcv2 := run_conv_bytes (P := Tryd.prog) Tryd.underlying32 Tryd.underlying5 Tryd.underlying9 (cap := c) hr2
  obtain ⟨b, o, e, _, hc⟩ := hr.2 (by omega)
  simp only [Option.some.injEq, Addr.mk.injEq, and_true] at e
  obtain ⟨rfl, rfl⟩ := e
  have hc0 := hc n (.int .u8 77) (by rw [bv_append, List.getElem?_append_right (by rw [length_bv]; omega), length_bv, hll, Nat.sub_self]; rfl)
  rw [Nat.zero_add] at hc0
  clear hc hll hr hr2 hr1
  go_enter Tryd.func24, Tryd.ntmps24
  go_wp2
  go_ret
  exact ⟨rfl, rfl⟩
end Go.Proofs.YtiijjpjkfiookaaDoor
