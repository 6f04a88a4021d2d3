/- THE WALKS of radix: how many bytes a power takes. Needs the shelf's contracts of math/bits.Len64 and math/bits.Len (contract.sh, alias Try). -/
import Derived.Test.YtiijjpjkfiookaaDoorRadPow
import Derived.Test.YtiijjpjkfiookaaDoorBitsLen
namespace Go.Proofs.YtiijjpjkfiookaaDoor
open Go.RowKit

/-- How many bytes a number takes. -/
def cntB (q : Nat) : Nat := (Lib.bitLen q + 7) / 8
theorem cntB_zero : cntB 0 = 0 := by decide
theorem cntB_step {q : Nat} (h : 0 < q) (h2 : q < 18446744073709551616) : cntB q = 1 + cntB (q / 256) := by
  unfold cntB
  rcases Nat.lt_or_ge q 256 with h3 | h3
  · have h4 := Lib.bitLen_le8 ⟨q, h3⟩
    have h5 := Lib.bitLen_half q (by omega) (by omega)
    rw [show q / 256 = 0 by omega]
    have h6 : Lib.bitLen 0 = 0 := by decide
    simp only at h4
    omega
  · rw [Lib.bitLen_shift8 q h3 h2]; omega
def widV (n : Int) : Int := if 1 ≤ n ∧ n ≤ 16 then (cntB (10 ^ n.toNat - 1) : Int) else 0
theorem widV_no {n : Int} (h : ¬ (1 ≤ n ∧ n ≤ 16)) : widV n = 0 := if_neg h
theorem widV_ok {k : Nat} (h1 : 1 ≤ k) (h2 : k ≤ 16) : widV k = (cntB (10 ^ k - 1) : Int) := by
  unfold widV; rw [if_pos (by omega), Int.toNat_natCast]
theorem pow_le16 {k : Nat} (h : k ≤ 16) : 1 ≤ 10 ^ k ∧ 10 ^ k ≤ 10000000000000000 := by
  have h1 : 10 ^ k ≤ 10 ^ 16 := Nat.pow_le_pow_right (by decide) h
  have e : (10 : Nat) ^ 16 = 10000000000000000 := by decide
  exact ⟨Nat.one_le_pow _ _ (by decide), by omega⟩
theorem bitLen_le {q : Nat} (_h : q < 10000000000000000) : Lib.bitLen q ≤ 64 := by
  have a : ∀ (f x : Nat), Lib.bitLenAux f x ≤ f := by
    intro f
    induction f with
    | zero => intro x; simp [Lib.bitLenAux]
    | succ f ih =>
      intro x
      have := ih (x / 2)
      simp only [Lib.bitLenAux]
      split <;> omega
  exact a 64 q

set_option maxHeartbeats 1000000 in
theorem Width_any (n : Int) (w : World) : Calls Tryd.prog 19 #[.int .i64 n] w fun e w' => e = .returned (.int .i64 (widV n)) ∧ Below w.heap.size w w' := by
  by_cases h : 1 ≤ n ∧ n ≤ 16
  · obtain ⟨k, rfl⟩ : ∃ k : Nat, n = k := ⟨n.toNat, by omega⟩
    have hv := Lib.hid (widV_ok (k := k) (by omega) (by omega))
    have hp := powV_ok (k := k) (by omega) (by omega)
    have hq := pow_le16 (k := k) (by omega)
    go_enter Tryd.func19, Tryd.ntmps19
    go_wp2_with fail
    refine (Power_any _ _).mono ?_
    rintro e w1 ⟨rfl, hb1⟩
    rw [hp]
    have hq1 := Lib.hid (rfl : 10 ^ k - 1 = 10 ^ k - 1)
    generalize hQ : 10 ^ k = q at hq hv hq1 hp
    obtain ⟨r, rfl⟩ : ∃ r, q = r + 1 := ⟨q - 1, by omega⟩
    rw [Nat.add_sub_cancel] at hv
    have hbl := bitLen_le (q := r) (by omega)
    have hbi : (Lib.bitLen r : Int) ≤ 64 := by omega
    have hne : ¬ ((r + 1 : Nat) : Int) = 0 := by omega
    have hsub : ((r + 1 : Nat) : Int) - 1 = r := by omega
    have hw1 : IntKind.i64.wrap (((r + 1 : Nat) : Int) - 1) = r := by rw [hsub]; exact IntWalk.i64_in _ (by omega)
    clear hQ hq1 hsub
    go_wp2_with fail
    refine (Tryd.bits_Len (r : Int) w1 (by omega) (by omega)).mono ?_
    rintro e w' ⟨rfl, rfl⟩
    rw [Int.toNat_natCast]
    go_wp2_with fail
    go_ret
    exact ⟨ret_i (by rw [hv.out]; unfold cntB; omega), hb1⟩
  · have hv := Lib.hid (widV_no h)
    have hp := powV_no h
    clear h
    go_enter Tryd.func19, Tryd.ntmps19
    go_wp2_with fail
    refine (Power_any _ _).mono ?_
    rintro e w1 ⟨rfl, hb1⟩
    rw [hp]
    go_wp2_with fail
    go_ret
    exact ⟨ret_i hv.out.symm, hb1⟩

set_option maxHeartbeats 1000000 in
theorem rWidth_any (n : Int) (w : World) : Calls Tryd.prog 20 #[.int .i64 n] w fun e w' => e = .returned (.int .i64 (widV n)) ∧ w = w' := by
  by_cases h : 1 ≤ n ∧ n ≤ 16
  · obtain ⟨k, rfl⟩ : ∃ k : Nat, n = k := ⟨n.toNat, by omega⟩
    have hv := Lib.hid (widV_ok (k := k) (by omega) (by omega))
    have hp := powV_ok (k := k) (by omega) (by omega)
    have hq := pow_le16 (k := k) (by omega)
    go_enter Tryd.func20, Tryd.ntmps20
    go_wp2_with fail
    refine (rPower_any _ _).mono ?_
    rintro e w1 ⟨rfl, rfl⟩
    rw [hp]
    generalize hQ : 10 ^ k = q at hq hv hp
    obtain ⟨r, rfl⟩ : ∃ r, q = r + 1 := ⟨q - 1, by omega⟩
    rw [Nat.add_sub_cancel] at hv
    clear hQ hp
    go_wp2_with fail
    go_loop [3, 4] (fun c p => ∃ j q : Nat, c = .int .i64 j ∧ p = .int .i64 q ∧ q ≤ r ∧ j ≤ 64 ∧ j + cntB q = cntB r ∧ cntB r ≤ 64) (fun _ p => (intOf p).toNat)
    case atStart => exact ⟨0, r, rfl, by go_num, Nat.le_refl _, by omega, by omega, by unfold cntB; have := bitLen_le (q := r) (by omega); omega⟩
    case round =>
      obtain ⟨j, q, rfl, rfl, hqr, hj, hs, hs2⟩ := hrel
      by_cases hlt : 0 < q
      · have hst := cntB_step hlt (by omega)
        go_wp2
        go_round
        case rel => exact ⟨j + 1, q / 256, by go_num, by go_num, by omega, by omega, by omega, hs2⟩
        case measure => simp [intOf]; omega
      · obtain rfl : q = 0 := by omega
        rw [cntB_zero] at hs
        go_wp2
        go_ret
        exact ⟨ret_i (by rw [hv.out]; omega), rfl⟩
  · have hv := Lib.hid (widV_no h)
    have hp := powV_no h
    clear h
    go_enter Tryd.func20, Tryd.ntmps20
    go_wp2_with fail
    refine (rPower_any _ _).mono ?_
    rintro e w1 ⟨rfl, rfl⟩
    rw [hp]
    go_wp2_with fail
    go_loop [3, 4] (fun c p => c = .int .i64 0 ∧ p = .int .i64 (-1)) (fun _ p => 0)
    case atStart => exact ⟨rfl, rfl⟩
    case round =>
      obtain ⟨rfl, rfl⟩ := hrel
      go_wp2
      go_ret
      exact ⟨ret_i hv.out.symm, rfl⟩
end Go.Proofs.YtiijjpjkfiookaaDoor
