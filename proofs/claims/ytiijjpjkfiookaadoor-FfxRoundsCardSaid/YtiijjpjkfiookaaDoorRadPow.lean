/- THE WALKS of radix: the table of powers. -/
import Derived.Test.YtiijjpjkfiookaaDoorRows
import Derived.Test.YtiijjpjkfiookaaDoorMem
import Derived.WalkKit
import Derived.ProofKit
import Derived.Deep.QuietTactic
import Derived.BigQuiet
import Derived.BigRegion
import Derived.Laws.Rows
import Derived.Laws.Tables
import Derived.Laws.CopyRow
import Derived.Deep.WholeRow
import Derived.Lib.Hide
namespace Go.Proofs.YtiijjpjkfiookaaDoor
open Go.RowKit

def powZ : Array Value := #[.int .i64 0, .int .i64 0, .int .i64 0, .int .i64 0, .int .i64 0, .int .i64 0, .int .i64 0, .int .i64 0, .int .i64 0, .int .i64 0, .int .i64 0, .int .i64 0, .int .i64 0, .int .i64 0, .int .i64 0, .int .i64 0, .int .i64 0]
def powTab : Array Value := #[.int .i64 1, .int .i64 10, .int .i64 100, .int .i64 1000, .int .i64 10000, .int .i64 100000, .int .i64 1000000, .int .i64 10000000, .int .i64 100000000, .int .i64 1000000000, .int .i64 10000000000, .int .i64 100000000000, .int .i64 1000000000000, .int .i64 10000000000000, .int .i64 100000000000000, .int .i64 1000000000000000, .int .i64 10000000000000000]
/-- Cell j when k powers have been laid. -/
def pwAt (k j : Nat) : Nat := if j ≤ k then 10 ^ j else 0
theorem pow_row (w : World) (T : TypeId) : (w.alloc (.cells powZ T)).rowIs w.heap.size T 17 (fun _ => .int .i64 0) := by
  refine ⟨_, (MapKept.heap_alloc w _).1, rfl, fun i hi => ?_⟩
  have h : powZ = Array.replicate 17 (.int .i64 0) := rfl
  rw [h, Array.getElem?_replicate, if_pos hi]

set_option maxHeartbeats 1000000 in
theorem powers_any (w : World) : Calls Tryd.prog 40 #[] w fun e w' => e = .returned (.agg powTab) ∧ Below w.heap.size w w' := by
  go_enter Tryd.func40, Tryd.ntmps40
  go_wp2_with fail
  go_loopw [3] (fun c wr => ∃ k : Nat, k ≤ 16 ∧ c = .int .i64 k ∧ wr.rowIs w.heap.size 51 17 (fun j => .int .i64 (pwAt k j)) ∧ Below w.heap.size w wr) (fun i _ => 16 - (intOf i).toNat)
  case atStart =>
    refine ⟨0, by omega, rfl, ⟨_, (MapKept.heap_alloc w _).1, rfl, fun i hi => ?_⟩, (Below.refl _ _).alloc (Nat.le_refl _) _⟩
    have : i = 0 ∨ i = 1 ∨ i = 2 ∨ i = 3 ∨ i = 4 ∨ i = 5 ∨ i = 6 ∨ i = 7 ∨ i = 8 ∨ i = 9 ∨ i = 10 ∨ i = 11 ∨ i = 12 ∨ i = 13 ∨ i = 14 ∨ i = 15 ∨ i = 16 := by omega
    rcases this with rfl | rfl | rfl | rfl | rfl | rfl | rfl | rfl | rfl | rfl | rfl | rfl | rfl | rfl | rfl | rfl | rfl <;> rfl
  case round =>
    obtain ⟨k, hk, rfl, hrow, hbel⟩ := hrel
    have HR := Lib.hid hrow
    by_cases hlt : k < 16
    · have hc := hrow.cell (i := k) (by omega)
      rw [show pwAt k k = 10 ^ k from if_pos (Nat.le_refl _)] at hc
      have hc2 := hrow.cell (i := k + 1) (by omega)
      have hf := hrow.frozen (k + 1)
      have hp : 10 ^ k ≤ 10 ^ 15 := Nat.pow_le_pow_right (by decide) (by omega)
      have e15 : (10 : Nat) ^ 15 = 1000000000000000 := by decide
      rw [e15] at hp
      have hps : 10 ^ (k + 1) = 10 ^ k * 10 := Nat.pow_succ ..
      have HPS := Lib.hid hps
      clear hrow e15 hps
      generalize 10 ^ k = q at hp hc HPS
      go_wp2
      go_roundw
      case rel =>
        refine ⟨k + 1, by omega, by go_num, (HR.out.set _ _).congr fun j _ => ?_, hbel.setCell (Nat.le_refl _) _⟩
        by_cases e : j = k + 1
        · rw [if_pos e, e, show pwAt (k + 1) (k + 1) = 10 ^ (k + 1) from if_pos (Nat.le_refl _), HPS.out]; go_num
        · rw [if_neg e]; unfold pwAt; by_cases h2 : j ≤ k
          · rw [if_pos h2, if_pos (by omega)]
          · rw [if_neg h2, if_neg (by omega)]
      case measure => simp [intOf]; omega
    · obtain rfl : k = 16 := by omega
      obtain ⟨cs, hg, hsz, hcs⟩ := hrow
      have hcs' : cs = powTab := by
        apply Array.ext_getElem?
        intro i
        by_cases hi : i < 17
        · rw [hcs i hi]
          have : i = 0 ∨ i = 1 ∨ i = 2 ∨ i = 3 ∨ i = 4 ∨ i = 5 ∨ i = 6 ∨ i = 7 ∨ i = 8 ∨ i = 9 ∨ i = 10 ∨ i = 11 ∨ i = 12 ∨ i = 13 ∨ i = 14 ∨ i = 15 ∨ i = 16 := by omega
          rcases this with rfl | rfl | rfl | rfl | rfl | rfl | rfl | rfl | rfl | rfl | rfl | rfl | rfl | rfl | rfl | rfl | rfl <;> rfl
        · rw [Array.getElem?_eq_none (by omega), Array.getElem?_eq_none (by show 17 ≤ i; omega)]
      subst hcs'
      clear hcs hsz
      go_wp2_with (first | (refine wpList_load_row rfl 51 _ rfl _ rfl 51 powTab (0, 0) _ hg Tryd.underlying51 rfl (by kernel_rfl) ?_) | (refine wpList_store_row rfl 51 _ _ rfl _ powTab rfl rfl 51 powTab hg (by kernel_rfl) rfl (by kernel_rfl) ?_))
      rw [setRow_self _ _ _ _ _ hg]
      exact bodyPost_ret (results_cell_row (P := Tryd.prog) (by rfl) _ _ w.heap.size 51 powTab (0, 0) _ (by rfl) hg Tryd.underlying51 rfl (by kernel_rfl)) rfl ⟨rfl, hbel⟩

/-- A power of ten, or 0. -/
def powV (n : Int) : Int := if 1 ≤ n ∧ n ≤ 16 then ((10 ^ n.toNat : Nat) : Int) else 0
theorem powV_no {n : Int} (h : ¬ (1 ≤ n ∧ n ≤ 16)) : powV n = 0 := if_neg h
theorem powV_ok {k : Nat} (h1 : 1 ≤ k) (h2 : k ≤ 16) : powV k = ((10 ^ k : Nat) : Int) := by
  unfold powV; rw [if_pos (by omega), Int.toNat_natCast]
theorem ret_i {k : IntKind} {a b : Int} (h : a = b) : Ending.returned (.int k a) = .returned (.int k b) := by rw [h]
theorem powTab_at {k : Nat} (h : k ≤ 16) : powTab[k]? = some (.int .i64 ((10 ^ k : Nat) : Int)) := by
  have : k = 0 ∨ k = 1 ∨ k = 2 ∨ k = 3 ∨ k = 4 ∨ k = 5 ∨ k = 6 ∨ k = 7 ∨ k = 8 ∨ k = 9 ∨ k = 10 ∨ k = 11 ∨ k = 12 ∨ k = 13 ∨ k = 14 ∨ k = 15 ∨ k = 16 := by omega
  rcases this with rfl | rfl | rfl | rfl | rfl | rfl | rfl | rfl | rfl | rfl | rfl | rfl | rfl | rfl | rfl | rfl | rfl <;> rfl

set_option maxHeartbeats 1000000 in
theorem Power_any (n : Int) (w : World) : Calls Tryd.prog 17 #[.int .i64 n] w fun e w' => e = .returned (.int .i64 (powV n)) ∧ Below w.heap.size w w' := by
  by_cases h1 : n < 1
  · have hv := Lib.hid (powV_no (n := n) (by omega))
    go_enter Tryd.func17, Tryd.ntmps17
    go_wp2_with fail
    go_ret
    exact ⟨ret_i hv.out.symm, Below.refl _ _⟩
  by_cases h2 : 16 < n
  · have hv := Lib.hid (powV_no (n := n) (by omega))
    go_enter Tryd.func17, Tryd.ntmps17
    go_wp2_with fail
    go_ret
    exact ⟨ret_i hv.out.symm, Below.refl _ _⟩
  obtain ⟨k, rfl⟩ : ∃ k : Nat, n = k := ⟨n.toNat, by omega⟩
  have hv := Lib.hid (powV_ok (k := k) (by omega) (by omega))
  have ht := Lib.hid (powTab_at (k := k) (by omega))
  have hk : k < 17 := by omega
  go_enter Tryd.func17, Tryd.ntmps17
  go_wp2_with fail
  refine (powers_any _).mono ?_
  rintro e w1 ⟨rfl, hb1⟩
  have hc : (w1.alloc (.cells powTab 51)).cell? ⟨w1.heap.size, k, none⟩ = some (.int .i64 ((10 ^ k : Nat) : Int)) := by
    rw [cell_of_row _ _ _ _ _ _ (heap_alloc_new w1 _)]; exact ht.out
  go_wp2_with (refine wpList_store_row rfl 51 _ _ rfl _ powTab rfl rfl 51 powZ (heap_alloc_new _ _) (by kernel_rfl) rfl (by kernel_rfl) ?_; simp only [World.setRow_alloc_new])
  go_ret
  exact ⟨ret_i hv.out.symm, hb1.alloc hb1.size _⟩

set_option maxHeartbeats 1000000 in
theorem rPower_any (n : Int) (w : World) : Calls Tryd.prog 18 #[.int .i64 n] w fun e w' => e = .returned (.int .i64 (powV n)) ∧ w = w' := by
  by_cases h1 : n < 1
  · have hv := Lib.hid (powV_no (n := n) (by omega))
    go_enter Tryd.func18, Tryd.ntmps18
    go_wp2_with fail
    go_ret
    exact ⟨ret_i hv.out.symm, rfl⟩
  by_cases h2 : 16 < n
  · have hv := Lib.hid (powV_no (n := n) (by omega))
    go_enter Tryd.func18, Tryd.ntmps18
    go_wp2_with fail
    go_ret
    exact ⟨ret_i hv.out.symm, rfl⟩
  obtain ⟨k, rfl⟩ : ∃ k : Nat, n = k := ⟨n.toNat, by omega⟩
  have hv := Lib.hid (powV_ok (k := k) (by omega) (by omega))
  have hk : k < 17 := by omega
  go_enter Tryd.func18, Tryd.ntmps18
  go_wp2_with fail
  go_loop [3, 4] (fun p c => ∃ j q : Nat, j ≤ k ∧ c = .int .i64 j ∧ p = .int .i64 q ∧ q = 10 ^ j) (fun _ i => k - (intOf i).toNat)
  case atStart => exact ⟨0, 1, by omega, rfl, rfl, rfl⟩
  case round =>
    obtain ⟨j, q, hj, rfl, rfl, hq⟩ := hrel
    have HQ := Lib.hid hq
    by_cases hlt : j < k
    · have hp : 10 ^ j ≤ 10 ^ 15 := Nat.pow_le_pow_right (by decide) (by omega)
      have e15 : (10 : Nat) ^ 15 = 1000000000000000 := by decide
      rw [e15, ← hq] at hp
      clear e15 hq
      go_wp2
      go_round
      case rel => exact ⟨j + 1, 10 * q, by omega, by go_num, by go_num, by rw [HQ.out, Nat.pow_succ]; omega⟩
      case measure => simp [intOf]; omega
    · obtain rfl : j = k := by omega
      clear hq
      go_wp2
      go_ret
      exact ⟨ret_i (by rw [hv.out, HQ.out]), rfl⟩
end Go.Proofs.YtiijjpjkfiookaaDoor
