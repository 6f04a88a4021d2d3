/- THE WALKS of ffx: numbers in bytes, halves. -/
import Derived.Test.YtiijjpjkfiookaaDoorFfxP
import Derived.Test.YtiijjpjkfiookaaDoorClone
import Derived.Deep.LoopGhost
import Derived.StillTailTactics
namespace Go.Proofs.YtiijjpjkfiookaaDoor
open Go.RowKit

theorem numB_succ (n j : Nat) : numB n (j + 1) = UInt8.ofNat (n / 256 ^ j) :: numB n j := by
  unfold numB
  rw [List.range_succ_eq_map, List.map_cons, List.map_map]
  congr 1
  apply List.map_congr_left
  intro t ht
  simp only [Function.comp]
  rw [show j + 1 - 1 - (t + 1) = j - 1 - t by omega]
theorem u8_nat (n : Nat) : ((UInt8.ofNat n).toNat : Int) = ((n % 256 : Nat) : Int) := by rw [UInt8.toNat_ofNat']
/-- Behind j bytes of a number. -/
def NumRel (w : World) (n k : Nat) (s0 i : Value) (gg : Nat) (wr : World) : Prop :=
  ∃ j : Nat, j ≤ k ∧ gg = k - j ∧ i = .int .i64 j ∧ s0 = .int .i64 (n / 256 ^ j : Nat) ∧ Row wr w.heap.size 1 (some ⟨w.heap.size, 0, none⟩) k k (bv (List.replicate (k - j) 0 ++ numB n j)) ∧ Below w.heap.size w wr
theorem num_row {n k j : Nat} (h : j < k) : (bv (List.replicate (k - j) 0 ++ numB n j)).set (k - 1 - j) (.int .u8 (((n / 256 ^ j % 256 : Nat)) : Int)) = bv (List.replicate (k - (j + 1)) 0 ++ numB n (j + 1)) := by
  rw [← u8_nat, ← bv_set, List.set_append_left _ _ (by simp; omega), numB_succ]
  congr 1
  rw [show k - j = (k - (j + 1)) + 1 by omega, List.replicate_succ', List.set_append_right _ _ (by simp; omega), List.append_assoc]
  simp [show k - 1 - j - (k - (j + 1)) = 0 by omega]
set_option maxRecDepth 100000 in
set_option maxHeartbeats 1000000 in
theorem number_any (n k : Nat) (w : World) (hk : k ≤ 8) (hn : n < 9223372036854775808) : Calls Tryd.prog 56 #[.int .i64 n, .int .i64 k] w fun e w' => RowOut (numB n k) w e w' := by
  obtain ⟨i0, hi, hz0, hz1, hz2⟩ := info_parts byte_info
  have hmk := fun W => run_make (P := Tryd.prog) W 32 5 i0 (.int .u8 0) Tryd.underlying32 hi hz0 .i64 .i64 k (k : Int) (by omega) (by omega) (by rw [hz2]; omega) (by omega)
  rw [hz1, show ((k : Int)).toNat = k by omega, Nat.mul_one] at hmk
  have hrow0 := made_row w (.int .u8 0) 5 k k (by omega) (by unfold maxLen; omega)
  have HST : Hid (NumRel w n k (.int .i64 n) (.int .i64 0) k (w.alloc (.cells (madeCells #[.int .u8 0] k) 5))) := Lib.hid ⟨0, by omega, rfl, rfl, by simp, by
    have e : bv (List.replicate (k - 0) 0 ++ numB n 0) = List.replicate k (.int .u8 0) := by simp [numB, bv]
    rw [e]; exact hrow0, (Below.refl _ _).alloc (Nat.le_refl _) _⟩
  clear hrow0 hi hz0 hz1 hz2
  go_enter Tryd.func56, Tryd.ntmps56
  go_wp2_with fail
  go_loopg [0, 6, 11] k (fun gg s0 _ i wr => NumRel w n k s0 i gg wr)
  case atStart => exact HST.out
  case round =>
    clear HST hmk
    obtain ⟨j, hj, hgk, rfl, rfl, hrow, hb⟩ := hrel
    have HGK := Lib.hid hgk
    clear hgk
    by_cases hlt : j < k
    · have hc := (hrow.at_.2.2.1 (k - 1 - j) (by omega))
      obtain ⟨u0, hc0⟩ := Option.isSome_iff_exists.1 hc.1
      have hf0 := hc.2
      rw [Nat.zero_add] at hc0 hf0
      have hs := hrow.set (j := k - 1 - j) (by omega) (.int .u8 (((n / 256 ^ j % 256 : Nat)) : Int))
      rw [num_row hlt, Nat.zero_add] at hs
      have hq : n / 256 ^ j / 256 = n / 256 ^ (j + 1) := by rw [Nat.div_div_eq_div_mul, Nat.pow_succ]
      have hqb : n / 256 ^ j < 9223372036854775808 := Nat.lt_of_le_of_lt (Nat.div_le_self _ _) hn
      have HNE : Hid (NumRel w n k (.int .i64 (n / 256 ^ (j + 1) : Nat)) (.int .i64 ((j : Int) + 1)) (k - (j + 1)) (wr.setCell ⟨w.heap.size, k - 1 - j, none⟩ (.int .u8 (((n / 256 ^ j % 256 : Nat)) : Int)))) := Lib.hid ⟨j + 1, by omega, rfl, by go_num, rfl, hs, hb.setCell (Nat.le_refl _) _⟩
      rw [← hq] at HNE
      clear hs hq hrow hb hc
      generalize n / 256 ^ j = v at HNE hqb
      have g1 : (k : Int) - 1 - (j : Int) = ((k - 1 - j : Nat) : Int) := by omega
      have g2 : ((k - 1 - j : Nat) : Int) < (k : Int) := by omega
      obtain ⟨m, hm⟩ : ∃ m, m = k - 1 - j := ⟨_, rfl⟩
      rw [← hm] at g1 g2 hc0 hf0 HNE
      clear hm
      have g3 : (k : Int) - (1 + (j : Int)) = (m : Int) := by omega
      go_wp2_with fail
      go_roundg (k - (j + 1))
      case measure => have := HGK.out; omega
      case rel => exact HNE.out
    · obtain rfl : j = k := by omega
      rw [Nat.sub_self, List.replicate_zero, List.nil_append] at hrow
      have HROW := Lib.hid hrow
      have HB := Lib.hid hb
      clear hrow hb
      go_wp2_with fail
      go_ret
      have hl := length_numB n j
      refine ⟨_, j, by rw [hl]; rfl, ?_, HB.out⟩
      rw [hl]; exact HROW.out
/-- Halves. -/
theorem half_any (n i : Nat) (w : World) (hn : n ≤ 64) (hi : i ≤ 64) : Calls Tryd.prog 47 #[.int .i64 n, .int .i64 i] w fun e w' => e = .returned (.int .i64 (halfN n i : Nat)) ∧ w = w' := by
  have h1 : ((i : Nat) : Int).tmod 2 = ((i % 2 : Nat) : Int) := by rw [Int.tmod_eq_emod_of_nonneg (by omega)]; omega
  obtain ⟨m, hm⟩ : ∃ m, m = i % 2 := ⟨_, rfl⟩
  have hm2 : m ≤ 1 := by omega
  have HH := Lib.hid (show halfN n i = (n + m) / 2 by rw [hm]; rfl)
  rw [← hm] at h1
  have h2 : (i : Int) % 2 = (m : Int) := by omega
  clear hm
  go_enter Tryd.func47, Tryd.ntmps47
  go_wp2_with fail
  go_ret
  exact ⟨by rw [HH.out]; show Ending.returned (.int .i64 _) = _; congr 2, rfl⟩
def mayB (n : Int) : Bool := decide (6 ≤ n ∧ n ≤ 32)
theorem may_any (n : Int) (w : World) : Calls Tryd.prog 49 #[.int .i64 n] w fun e w' => e = .returned (.bool (mayB n)) ∧ w = w' := by
  by_cases h1 : 6 ≤ n
  · by_cases h2 : n ≤ 32
    · have HH := Lib.hid (show mayB n = true from decide_eq_true ⟨h1, h2⟩)
      go_enter Tryd.func49, Tryd.ntmps49
      go_wp2_with fail
      go_ret
      exact ⟨by rw [HH.out]; rfl, rfl⟩
    · have HH := Lib.hid (show mayB n = false from decide_eq_false (by omega))
      go_enter Tryd.func49, Tryd.ntmps49
      go_wp2_with fail
      go_ret
      exact ⟨by rw [HH.out]; rfl, rfl⟩
  · have HH := Lib.hid (show mayB n = false from decide_eq_false (by omega))
    go_enter Tryd.func49, Tryd.ntmps49
    go_wp2_with fail
    go_ret
    exact ⟨by rw [HH.out]; rfl, rfl⟩
end Go.Proofs.YtiijjpjkfiookaaDoor
