/- THE WALKS of field: twice, Mul, Pow, Inv, Box. -/
import Derived.Test.YtiijjpjkfiookaaDoorRows
import Derived.Test.YtiijjpjkfiookaaDoorAesP
import Derived.WalkKit
import Derived.ProofKit
import Derived.Deep.QuietTactic
import Derived.BigQuiet
import Derived.BigRegion
import Derived.Laws.BitsAllLaws
import Derived.Laws.BitsLemmas
import Derived.Lib.Hide
import Derived.WalkMore
namespace Go.Proofs.YtiijjpjkfiookaaDoor
open Go.RowKit

/-- A byte as a value. -/
abbrev u8v (a : UInt8) : Value := .int .u8 (a.toNat : Int)
theorem bx_xor (a b : UInt8) : bits .xor .u8 (a.toNat : Int) (b.toNat : Int) = ((a ^^^ b).toNat : Int) := by
  rw [u8_xor_nat _ _ a.toNat_lt b.toNat_lt, UInt8.toNat_xor]
theorem bx_and1 (b : UInt8) : bits .and .u8 (b.toNat : Int) 1 = ((b.toNat % 2 : Nat) : Int) := by
  rw [show (1 : Int) = ((1 : Nat) : Int) from rfl, u8_and_nat _ _ b.toNat_lt (by decide), nat_mask1]
theorem bx_all (a : UInt8) : bits .and .u8 (a.toNat : Int) 255 = (a.toNat : Int) := by
  rw [show (255 : Int) = ((255 : Nat) : Int) from rfl, u8_and_nat _ _ a.toNat_lt (by decide), nat_mask8]
  have := a.toNat_lt
  omega
theorem bx_none (a : UInt8) : bits .and .u8 (a.toNat : Int) 0 = 0 := by
  rw [show (0 : Int) = ((0 : Nat) : Int) from rfl, u8_and_nat _ _ a.toNat_lt (by decide), Nat.and_zero]
theorem bx_xnone (a : UInt8) : bits .xor .u8 (a.toNat : Int) 0 = (a.toNat : Int) := by
  rw [show (0 : Int) = ((0 : Nat) : Int) from rfl, u8_xor_nat _ _ a.toNat_lt (by decide), Nat.xor_zero]
theorem xt_low {a : UInt8} (h : a.toNat < 128) : bits .xor .u8 ((a.toNat : Int) * 2) (bits .and .u8 27 0) = ((xt a).toNat : Int) := by
  rw [xt_toNat, if_pos h, show bits .and .u8 27 0 = 0 from by decide, show (a.toNat : Int) * 2 = ((2 * a.toNat : Nat) : Int) by omega, show (0 : Int) = ((0 : Nat) : Int) from rfl, u8_xor_nat _ _ (by omega) (by decide), Nat.xor_zero]
theorem xt_high {a : UInt8} (h : ¬ a.toNat < 128) : bits .xor .u8 ((a.toNat : Int) * 2 % 256) (bits .and .u8 27 255) = ((xt a).toNat : Int) := by
  have := a.toNat_lt
  rw [xt_toNat, if_neg h, show bits .and .u8 27 255 = 27 from by decide, show (a.toNat : Int) * 2 % 256 = ((2 * a.toNat - 256 : Nat) : Int) by omega, show (27 : Int) = ((27 : Nat) : Int) from rfl, u8_xor_nat _ _ (by omega) (by decide)]

theorem ftwice_any (a : UInt8) (w : World) : Calls Tryd.prog 93 #[.int .u8 (a.toNat : Int)] w fun e w' => e = .returned (.int .u8 ((xt a).toNat : Int)) ∧ w = w' := by
  have hlt := a.toNat_lt
  by_cases h : a.toNat < 128
  · have HX := Lib.hid (xt_low h)
    have hd : (a.toNat : Int) / 128 = 0 := by omega
    go_enter Tryd.func93, Tryd.ntmps93
    go_wp2_with fail
    go_ret
    exact ⟨by rw [← HX.out]; first | done | rfl, rfl⟩
  · have HX := Lib.hid (xt_high h)
    have hd : (a.toNat : Int) / 128 = 1 := by omega
    go_enter Tryd.func93, Tryd.ntmps93
    go_wp2_with fail
    go_ret
    exact ⟨by rw [← HX.out]; first | done | rfl, rfl⟩
/-- Behind some bits of the product. -/
def MulRel (a0 b0 : UInt8) (a b p : Value) : Prop := ∃ (k : Nat) (x y q : UInt8), a = .int .u8 (x.toNat : Int) ∧ b = .int .u8 (y.toNat : Int) ∧ p = .int .u8 (q.toNat : Int) ∧ y.toNat < 2 ^ k ∧ gm k q x y = mulG a0 b0
theorem mul_step {a0 b0 x y q : UInt8} {k : Nat} (h0 : 0 < y.toNat) (hk : y.toNat < 2 ^ k) (h : gm k q x y = mulG a0 b0) (z : UInt8) (hz : z = if y.toNat % 2 = 1 then q ^^^ x else q) :
    MulRel a0 b0 (.int .u8 ((xt x).toNat : Int)) (.int .u8 ((y.toNat : Int) / 2)) (.int .u8 (z.toNat : Int)) := by
  cases k with
  | zero => simp at hk; omega
  | succ k =>
    have hy := y.toNat_lt
    have e : (UInt8.ofNat (y.toNat / 2)).toNat = y.toNat / 2 := u8_of (by omega)
    refine ⟨k, xt x, UInt8.ofNat (y.toNat / 2), z, rfl, by rw [e]; simp, rfl, by rw [e]; rw [Nat.pow_succ] at hk; omega, ?_⟩
    rw [← h, hz]
    rfl
set_option maxHeartbeats 1000000 in
theorem fMul_any (a b : UInt8) (w : World) : Calls Tryd.prog 85 #[.int .u8 (a.toNat : Int), .int .u8 (b.toNat : Int)] w fun e w' => e = .returned (.int .u8 ((mulG a b).toNat : Int)) ∧ w = w' := by
  have HB := b.toNat_lt
  go_enter Tryd.func85, Tryd.ntmps85
  go_wp2_with fail
  go_loop [0, 1, 5] (fun x y p => MulRel a b x y p) (fun _ y _ => (intOf y).toNat)
  case atStart => exact ⟨8, a, b, 0, rfl, rfl, rfl, b.toNat_lt, rfl⟩
  case round =>
    obtain ⟨k, x, y, q, rfl, rfl, rfl, hk, hg⟩ := hrel
    have hy := y.toNat_lt
    by_cases h0 : 0 < y.toNat
    · have HM := Lib.hid (fun z hz => mul_step h0 hk hg z hz)
      have o1 := bx_and1 y
      by_cases hm : y.toNat % 2 = 1
      · have o2 : bits .and .u8 (y.toNat : Int) 1 = 1 := by rw [o1, hm]; rfl
        have o3 := bx_all x
        have o4 := bx_xor q x
        have HZ := Lib.hid (HM.out (q ^^^ x) (by rw [if_pos hm]))
        clear o1 hk hg HM
        go_wp2_with fail
        refine (ftwice_any x _).mono ?_
        rintro e w1 ⟨rfl, rfl⟩
        go_wp2_with fail
        go_round
        case rel => exact HZ.out
        case measure => simp [intOf]; omega
      · have o2 : bits .and .u8 (y.toNat : Int) 1 = 0 := by rw [o1]; omega
        have o3 := bx_none x
        have o4 := bx_xnone q
        have HZ := Lib.hid (HM.out q (by rw [if_neg hm]))
        clear o1 hk hg HM
        go_wp2_with fail
        refine (ftwice_any x _).mono ?_
        rintro e w1 ⟨rfl, rfl⟩
        go_wp2_with fail
        go_round
        case rel => exact HZ.out
        case measure => simp [intOf]; omega
    · have hy0 : y = 0 := UInt8.toNat_inj.1 (by have : (0 : UInt8).toNat = 0 := rfl; omega)
      subst hy0
      rw [gm_zero] at hg
      have HG := Lib.hid hg
      clear hg hk
      go_wp2_with fail
      go_ret
      exact ⟨by rw [HG.out]; rfl, rfl⟩
/-- Behind some bits of the power. -/
def PowRel (g : UInt8) (a n p : Value) : Prop := ∃ (f m : Nat) (x q : UInt8), a = .int .u8 (x.toNat : Int) ∧ n = .int .i64 m ∧ p = .int .u8 (q.toNat : Int) ∧ m < 2 ^ f ∧ m ≤ 254 ∧ pwr f q x m = g
theorem i64_and1 {m : Nat} (h : m ≤ 254) : bits .and .i64 (m : Int) 1 = ((m % 2 : Nat) : Int) := by
  have e : ∀ m : Nat, m < 255 → bits .and .i64 ((m : Nat) : Int) 1 = (((m : Nat) % 2 : Nat) : Int) := by decide +kernel
  exact e m (by omega)
set_option maxHeartbeats 1000000 in
theorem fInv_any (a : UInt8) (w : World) : Calls Tryd.prog 91 #[.int .u8 (a.toNat : Int)] w fun e w' => e = .returned (.int .u8 ((invG a).toNat : Int)) ∧ w = w' := by
  suffices h : Calls Tryd.prog 99 #[.int .u8 (a.toNat : Int), .int .i64 254] w fun e w' => e = .returned (.int .u8 ((invG a).toNat : Int)) ∧ w = w' by
    go_enter Tryd.func91, Tryd.ntmps91
    go_wp2_with fail
    refine h.mono ?_
    rintro e w1 ⟨rfl, rfl⟩
    go_wp2_with fail
    go_ret
    exact ⟨rfl, rfl⟩
  go_enter Tryd.func99, Tryd.ntmps99
  go_wp2_with fail
  go_step3
  go_wp2_with fail
  go_step3
  go_wp2_with fail
  go_loop [0, 1, 5] (fun x n p => PowRel (invG a) x n p) (fun _ n _ => (intOf n).toNat)
  case atStart => exact ⟨8, 254, a, 1, rfl, rfl, rfl, by decide, by decide, rfl⟩
  case round =>
    obtain ⟨f, m, x, q, rfl, rfl, rfl, hk, h254, hg⟩ := hrel
    have o1 := i64_and1 h254
    by_cases h0 : 0 < m
    · by_cases hm : m % 2 = 1
      · have o2 : bits .and .i64 (m : Int) 1 = 1 := by rw [o1, hm]; rfl
        rw [pwr_odd hm hk] at hg
        have HG := Lib.hid hg
        clear o1 hg
        go_wp2_with fail
        refine (fMul_any q x _).mono ?_
        rintro e w1 ⟨rfl, rfl⟩
        go_wp2_with fail
        go_round
        case rel => exact ⟨f, m - 1, x, _, rfl, by go_num, rfl, by omega, by omega, HG.out⟩
        case measure => simp [intOf]; omega
      · have o2 : bits .and .i64 (m : Int) 1 = 0 := by rw [o1]; omega
        cases f with
        | zero => simp at hk; omega
        | succ f =>
          rw [pwr_even hm] at hg
          have HG := Lib.hid hg
          have hk2 : m / 2 < 2 ^ f := by rw [Nat.pow_succ] at hk; omega
          clear o1 hg hk
          go_wp2_with fail
          refine (fMul_any x x _).mono ?_
          rintro e w1 ⟨rfl, rfl⟩
          go_wp2_with fail
          go_round
          case rel => exact ⟨f, m / 2, _, q, rfl, by go_num, rfl, hk2, by omega, HG.out⟩
          case measure => simp [intOf]; omega
    · obtain rfl : m = 0 := by omega
      rw [pwr_zero] at hg
      have HG := Lib.hid hg
      clear hg hk o1
      go_wp2_with fail
      go_ret
      exact ⟨by rw [HG.out]; rfl, rfl⟩
theorem rl_or (a : UInt8) : bits .or .u8 ((a.toNat : Int) * 2 % 256) ((a.toNat : Int) / 128) = ((rl1 a).toNat : Int) := by
  have := a.toNat_lt
  rw [rl1_toNat, show (a.toNat : Int) * 2 % 256 = (((2 * a.toNat) % 256 : Nat) : Int) by omega, show (a.toNat : Int) / 128 = ((a.toNat / 128 : Nat) : Int) by omega, u8_or_nat _ _ (by omega) (by omega)]
theorem rl8_any (a : UInt8) (w : World) : Calls Tryd.prog 92 #[.int .u8 (a.toNat : Int), .int .i64 1] w fun e w' => e = .returned (.int .u8 ((rl1 a).toNat : Int)) ∧ w = w' := by
  have hm : bits .and .u64 1 7 = 1 := by decide
  have HX := Lib.hid (rl_or a)
  go_enter Tryd.func92, Tryd.ntmps92
  go_wp2_with fail
  go_ret
  exact ⟨by rw [← HX.out]; first | done | rfl, rfl⟩
theorem aff_flat (i : UInt8) : ((((i ^^^ 99) ^^^ rl1 i) ^^^ rl1 (rl1 i)) ^^^ rl1 (rl1 (rl1 i))) ^^^ rl1 (rl1 (rl1 (rl1 i))) = affG i := rfl
/-- Behind k turns. -/
def rlN : Nat → UInt8 → UInt8
  | 0, i => i
  | k + 1, i => rl1 (rlN k i)
def affN : Nat → UInt8 → UInt8
  | 0, i => i ^^^ 99
  | k + 1, i => affN k i ^^^ rlN (k + 1) i
set_option maxHeartbeats 1000000 in
theorem fBox_any (a : UInt8) (w : World) : Calls Tryd.prog 84 #[.int .u8 (a.toNat : Int)] w fun e w' => e = .returned (.int .u8 ((sb a).toNat : Int)) ∧ w = w' := by
  have HS := Lib.hid (boxG_sb a)
  have HG := Lib.hid (show affN 4 (invG a) = boxG a from rfl)
  have ox := bx_xor (invG a) 99
  rw [show ((99 : UInt8).toNat : Int) = 99 from rfl] at ox
  go_enter Tryd.func84, Tryd.ntmps84
  go_wp2_with fail
  refine (fInv_any a _).mono ?_
  rintro e w1 ⟨rfl, rfl⟩
  go_wp2_with fail
  go_loop [3, 4, 9] (fun i p k => ∃ j : Nat, j ≤ 4 ∧ k = .int .i64 j ∧ i = .int .u8 ((rlN j (invG a)).toNat : Int) ∧ p = .int .u8 ((affN j (invG a)).toNat : Int)) (fun _ _ k => 4 - (intOf k).toNat)
  case atStart => exact ⟨0, by omega, rfl, rfl, rfl⟩
  case round =>
    obtain ⟨j, hj, rfl, rfl, rfl⟩ := hrel
    clear ox
    by_cases hlt : j < 4
    · have ox := bx_xor (affN j (invG a)) (rl1 (rlN j (invG a)))
      go_wp2_with fail
      refine (rl8_any _ _).mono ?_
      rintro e w1 ⟨rfl, rfl⟩
      go_wp2_with fail
      go_round
      case rel => exact ⟨j + 1, by omega, by go_num, rfl, rfl⟩
      case measure => simp [intOf]; omega
    · obtain rfl : j = 4 := by omega
      go_wp2_with fail
      go_ret
      exact ⟨by rw [HG.out, HS.out]; rfl, rfl⟩
end Go.Proofs.YtiijjpjkfiookaaDoor
