/- THE WALK of the law RadixWidths. -/
import Derived.Test.YtiijjpjkfiookaaDoorRadNum
namespace Go.Proofs.YtiijjpjkfiookaaDoor
open Go.RowKit

set_option maxHeartbeats 2000000 in
theorem RadixWidths_walk (n : Int) (w : World) (_h1 : (Lit.int .i64 n).wf = true) :
    Calls Tryd.prog 4 #[.int .i64 n] w fun e w' => e = .returned (.bool true) ∧ Below w.heap.size w w' := by
  by_cases h : 1 ≤ n ∧ n ≤ 16
  · obtain ⟨k, rfl⟩ : ∃ k : Nat, n = k := ⟨n.toNat, by omega⟩
    have hv := widV_ok (k := k) (by omega) (by omega)
    have hp := powV_ok (k := k) (by omega) (by omega)
    have hq := pow_le16 (k := k) (by omega)
    have hk1 : 1 ≤ (k : Int) := h.1
    have hk2 : (k : Int) ≤ 16 := h.2
    have hpm : k ≠ 1 → powV ((k : Int) - 1) * 10 = ((10 ^ k : Nat) : Int) ∧ powV ((k : Int) - 1) ≤ 1000000000000000 ∧ 0 ≤ powV ((k : Int) - 1) := by
      intro hk
      obtain ⟨j, rfl⟩ : ∃ j, k = j + 1 := ⟨k - 1, by omega⟩
      have e : ((j + 1 : Nat) : Int) - 1 = (j : Int) := by omega
      rw [e, powV_ok (by omega) (by omega), Nat.pow_succ]
      have h1 : 10 ^ j ≤ 10 ^ 15 := Nat.pow_le_pow_right (by decide) (by omega)
      have e : (10 : Nat) ^ 15 = 1000000000000000 := by decide
      refine ⟨by omega, by omega, by omega⟩
    have h10 : k = 1 → 10 ^ k = 10 := by intro e; subst e; rfl
    clear h
    go_enter Tryd.func4, Tryd.ntmps4
    go_wp2_with fail
    refine (small09_any _).mono ?_
    rintro e w1 ⟨rfl, hb1⟩
    go_wp2_with fail
    refine (Width_any _ _).mono ?_
    rw [hv]
    rintro e w2 ⟨rfl, hb2⟩
    go_wp2_with fail
    refine (Power_any _ _).mono ?_
    rw [hp]
    rintro e w3 ⟨rfl, hb3⟩
    have hb := thenB hb1 (thenB hb2 hb3)
    generalize hQ : 10 ^ k = q at hq hv hp hpm h10
    obtain ⟨r, rfl⟩ : ∃ r, q = r + 1 := ⟨q - 1, by omega⟩
    rw [Nat.add_sub_cancel] at hv ⊢
    clear hQ hp hv hb1 hb2 hb3
    go_wp2_with fail
    go_loop [6, 7] (fun c p => ∃ j q : Nat, c = .int .i64 j ∧ p = .int .i64 q ∧ q ≤ r ∧ j ≤ 64 ∧ j + cntB q = cntB r ∧ cntB r ≤ 64) (fun _ p => (intOf p).toNat)
    case atStart => exact ⟨0, r, rfl, by go_num, Nat.le_refl _, by omega, by omega, by unfold cntB; have := bitLen_le (q := r) (by omega); omega⟩
    case round =>
      obtain ⟨j, q, rfl, rfl, hqr, hj, hs, hs2⟩ := hrel
      by_cases hlt : 0 < q
      · have hst := cntB_step hlt (by omega)
        go_wp2
        go_round
        case rel => exact ⟨j + 1, q / 256, by go_num, by go_num, by omega, by omega, by omega, hs2⟩
        case measure => simp [intOf]; omega
      · obtain rfl : q = 0 := by omega
        rw [cntB_zero] at hs
        obtain rfl : j = cntB r := by omega
        by_cases hk : k = 1
        · have h11 : r = 9 := by have := h10 hk; omega
          subst hk; subst h11
          go_wp2_with fail
          go_ret
          exact ⟨rfl, hb⟩
        · obtain ⟨m1, m2, m3⟩ := hpm hk
          have hki : ¬ (k : Int) = 1 := by omega
          go_wp2_with fail
          refine (Power_any _ _).mono ?_
          rintro e w4 ⟨rfl, hb4⟩
          generalize powV ((k : Int) - 1) = pm at m1 m2 m3
          go_wp2_with fail
          go_ret
          exact ⟨rfl, thenB hb hb4⟩
  · have hv := widV_no h
    have hp := powV_no h
    by_cases h1 : n < 1
    · clear h
      go_enter Tryd.func4, Tryd.ntmps4
      go_wp2_with fail
      refine (small09_any _).mono ?_
      rintro e w1 ⟨rfl, hb1⟩
      go_wp2_with fail
      refine (Width_any _ _).mono ?_
      rw [hv]
      rintro e w2 ⟨rfl, hb2⟩
      go_wp2_with fail
      refine (Power_any _ _).mono ?_
      rw [hp]
      rintro e w3 ⟨rfl, hb3⟩
      go_wp2_with fail
      go_ret
      exact ⟨rfl, thenB hb1 (thenB hb2 hb3)⟩
    · have h16 : 16 < n := by omega
      clear h
      go_enter Tryd.func4, Tryd.ntmps4
      go_wp2_with fail
      refine (small09_any _).mono ?_
      rintro e w1 ⟨rfl, hb1⟩
      go_wp2_with fail
      refine (Width_any _ _).mono ?_
      rw [hv]
      rintro e w2 ⟨rfl, hb2⟩
      go_wp2_with fail
      refine (Power_any _ _).mono ?_
      rw [hp]
      rintro e w3 ⟨rfl, hb3⟩
      go_wp2_with fail
      go_ret
      exact ⟨rfl, thenB hb1 (thenB hb2 hb3)⟩
end Go.Proofs.YtiijjpjkfiookaaDoor
