/- THE WALKS of field: twice, Mul, Pow, Inv, Box. THE WALKS of aes's blocks: lay, twice, mix, turn. A key of aes in memory; THE WALK of its maps. THE WALK of aes's expand: the round keys. A key of aes: New, its Once, Encrypt. THE WALK of aes's Encrypt. -/
import Derived.Test.YtogpnlfbdhddmaaGreatDoorRows
import Derived.Test.YtogpnlfbdhddmaaGreatDoorGPlain
import Derived.WalkKit
import Derived.ProofKit
import Derived.Deep.QuietTactic
import Derived.BigQuiet
import Derived.BigRegion
import Derived.Laws.BitsAllLaws
import Derived.Laws.BitsLemmas
import Derived.Lib.Hide
import Derived.WalkMore
import Derived.Test.YtogpnlfbdhddmaaGreatDoorGMem
import Derived.Deep.DeepCutAuto
import Derived.Deep.WholeRow
import Derived.Deep.RegionHeld
import Derived.Laws.Cover3
import Derived.StillTailTactics
import Derived.Deep.LoopGhost
import Derived.Deep.RegionHeld3
import Derived.Outline
import Derived.Deep.CutBlock
import Derived.Conc.MuLone
namespace Go.Proofs.YtogpnlfbdhddmaaGreatDoor
open Go.RowKit

/-- A byte as a value. -/
abbrev u8v (a : UInt8) : Value := .int .u8 (a.toNat : Int)
theorem bx_xor (a b : UInt8) : bits .xor .u8 (a.toNat : Int) (b.toNat : Int) = ((a ^^^ b).toNat : Int) := by
  rw [u8_xor_nat _ _ a.toNat_lt b.toNat_lt, UInt8.toNat_xor]
theorem bx_and1 (b : UInt8) : bits .and .u8 (b.toNat : Int) 1 = ((b.toNat % 2 : Nat) : Int) := by
  rw [show (1 : Int) = ((1 : Nat) : Int) from rfl, u8_and_nat _ _ b.toNat_lt (by decide), nat_mask1]
theorem bx_all (a : UInt8) : bits .and .u8 (a.toNat : Int) 255 = (a.toNat : Int) := by
  rw [show (255 : Int) = ((255 : Nat) : Int) from rfl, u8_and_nat _ _ a.toNat_lt (by decide), nat_mask8]
  have := a.toNat_lt
  omega
theorem bx_none (a : UInt8) : bits .and .u8 (a.toNat : Int) 0 = 0 := by
  rw [show (0 : Int) = ((0 : Nat) : Int) from rfl, u8_and_nat _ _ a.toNat_lt (by decide), Nat.and_zero]
theorem bx_xnone (a : UInt8) : bits .xor .u8 (a.toNat : Int) 0 = (a.toNat : Int) := by
  rw [show (0 : Int) = ((0 : Nat) : Int) from rfl, u8_xor_nat _ _ a.toNat_lt (by decide), Nat.xor_zero]
theorem xt_low {a : UInt8} (h : a.toNat < 128) : bits .xor .u8 ((a.toNat : Int) * 2) (bits .and .u8 27 0) = ((xt a).toNat : Int) := by
  rw [xt_toNat, if_pos h, show bits .and .u8 27 0 = 0 from by decide, show (a.toNat : Int) * 2 = ((2 * a.toNat : Nat) : Int) by omega, show (0 : Int) = ((0 : Nat) : Int) from rfl, u8_xor_nat _ _ (by omega) (by decide), Nat.xor_zero]
theorem xt_high {a : UInt8} (h : ¬ a.toNat < 128) : bits .xor .u8 ((a.toNat : Int) * 2 % 256) (bits .and .u8 27 255) = ((xt a).toNat : Int) := by
  have := a.toNat_lt
  rw [xt_toNat, if_neg h, show bits .and .u8 27 255 = 27 from by decide, show (a.toNat : Int) * 2 % 256 = ((2 * a.toNat - 256 : Nat) : Int) by omega, show (27 : Int) = ((27 : Nat) : Int) from rfl, u8_xor_nat _ _ (by omega) (by decide)]

theorem ftwice_any (a : UInt8) (w : World) : Calls Tryz.prog 231 #[.int .u8 (a.toNat : Int)] w fun e w' => e = .returned (.int .u8 ((xt a).toNat : Int)) ∧ w = w' := by
  have hlt := a.toNat_lt
  by_cases h : a.toNat < 128
  · have HX := Lib.hid (xt_low h)
    have hd : (a.toNat : Int) / 128 = 0 := by omega
    go_enter Tryz.func231, Tryz.ntmps231
    go_wp2_with fail
    go_ret
    exact ⟨by rw [← HX.out]; first | done | rfl, rfl⟩
  · have HX := Lib.hid (xt_high h)
    have hd : (a.toNat : Int) / 128 = 1 := by omega
    go_enter Tryz.func231, Tryz.ntmps231
    go_wp2_with fail
    go_ret
    exact ⟨by rw [← HX.out]; first | done | rfl, rfl⟩
/-- Behind some bits of the product. -/
def MulRel (a0 b0 : UInt8) (a b p : Value) : Prop := ∃ (k : Nat) (x y q : UInt8), a = .int .u8 (x.toNat : Int) ∧ b = .int .u8 (y.toNat : Int) ∧ p = .int .u8 (q.toNat : Int) ∧ y.toNat < 2 ^ k ∧ gm k q x y = mulG a0 b0
theorem mul_step {a0 b0 x y q : UInt8} {k : Nat} (h0 : 0 < y.toNat) (hk : y.toNat < 2 ^ k) (h : gm k q x y = mulG a0 b0) (z : UInt8) (hz : z = if y.toNat % 2 = 1 then q ^^^ x else q) :
    MulRel a0 b0 (.int .u8 ((xt x).toNat : Int)) (.int .u8 ((y.toNat : Int) / 2)) (.int .u8 (z.toNat : Int)) := by
  cases k with
  | zero => simp at hk; omega
  | succ k =>
    have hy := y.toNat_lt
    have e : (UInt8.ofNat (y.toNat / 2)).toNat = y.toNat / 2 := u8_of (by omega)
    refine ⟨k, xt x, UInt8.ofNat (y.toNat / 2), z, rfl, by rw [e]; simp, rfl, by rw [e]; rw [Nat.pow_succ] at hk; omega, ?_⟩
    rw [← h, hz]
    rfl
set_option maxHeartbeats 1000000 in
theorem fMul_any (a b : UInt8) (w : World) : Calls Tryz.prog 227 #[.int .u8 (a.toNat : Int), .int .u8 (b.toNat : Int)] w fun e w' => e = .returned (.int .u8 ((mulG a b).toNat : Int)) ∧ w = w' := by
  have HB := b.toNat_lt
  go_enter Tryz.func227, Tryz.ntmps227
  go_wp2_with fail
  go_loop [0, 1, 5] (fun x y p => MulRel a b x y p) (fun _ y _ => (intOf y).toNat)
  case atStart => exact ⟨8, a, b, 0, rfl, rfl, rfl, b.toNat_lt, rfl⟩
  case round =>
    obtain ⟨k, x, y, q, rfl, rfl, rfl, hk, hg⟩ := hrel
    have hy := y.toNat_lt
    by_cases h0 : 0 < y.toNat
    · have HM := Lib.hid (fun z hz => mul_step h0 hk hg z hz)
      have o1 := bx_and1 y
      by_cases hm : y.toNat % 2 = 1
      · have o2 : bits .and .u8 (y.toNat : Int) 1 = 1 := by rw [o1, hm]; rfl
        have o3 := bx_all x
        have o4 := bx_xor q x
        have HZ := Lib.hid (HM.out (q ^^^ x) (by rw [if_pos hm]))
        clear o1 hk hg HM
        go_wp2_with fail
        refine (ftwice_any x _).mono ?_
        rintro e w1 ⟨rfl, rfl⟩
        go_wp2_with fail
        go_round
        case rel => exact HZ.out
        case measure => simp [intOf]; omega
      · have o2 : bits .and .u8 (y.toNat : Int) 1 = 0 := by rw [o1]; omega
        have o3 := bx_none x
        have o4 := bx_xnone q
        have HZ := Lib.hid (HM.out q (by rw [if_neg hm]))
        clear o1 hk hg HM
        go_wp2_with fail
        refine (ftwice_any x _).mono ?_
        rintro e w1 ⟨rfl, rfl⟩
        go_wp2_with fail
        go_round
        case rel => exact HZ.out
        case measure => simp [intOf]; omega
    · have hy0 : y = 0 := UInt8.toNat_inj.1 (by have : (0 : UInt8).toNat = 0 := rfl; omega)
      subst hy0
      rw [gm_zero] at hg
      have HG := Lib.hid hg
      clear hg hk
      go_wp2_with fail
      go_ret
      exact ⟨by rw [HG.out]; rfl, rfl⟩
/-- Behind some bits of the power. -/
def PowRel (g : UInt8) (a n p : Value) : Prop := ∃ (f m : Nat) (x q : UInt8), a = .int .u8 (x.toNat : Int) ∧ n = .int .i64 m ∧ p = .int .u8 (q.toNat : Int) ∧ m < 2 ^ f ∧ m ≤ 254 ∧ pwr f q x m = g
theorem i64_and1 {m : Nat} (h : m ≤ 254) : bits .and .i64 (m : Int) 1 = ((m % 2 : Nat) : Int) := by
  have e : ∀ m : Nat, m < 255 → bits .and .i64 ((m : Nat) : Int) 1 = (((m : Nat) % 2 : Nat) : Int) := by decide +kernel
  exact e m (by omega)
set_option maxHeartbeats 1000000 in
theorem fInv_any (a : UInt8) (w : World) : Calls Tryz.prog 229 #[.int .u8 (a.toNat : Int)] w fun e w' => e = .returned (.int .u8 ((invG a).toNat : Int)) ∧ w = w' := by
  suffices h : Calls Tryz.prog 232 #[.int .u8 (a.toNat : Int), .int .i64 254] w fun e w' => e = .returned (.int .u8 ((invG a).toNat : Int)) ∧ w = w' by
    go_enter Tryz.func229, Tryz.ntmps229
    go_wp2_with fail
    refine h.mono ?_
    rintro e w1 ⟨rfl, rfl⟩
    go_wp2_with fail
    go_ret
    exact ⟨rfl, rfl⟩
  go_enter Tryz.func232, Tryz.ntmps232
  go_wp2_with fail
  go_step3
  go_wp2_with fail
  go_step3
  go_wp2_with fail
  go_loop [0, 1, 5] (fun x n p => PowRel (invG a) x n p) (fun _ n _ => (intOf n).toNat)
  case atStart => exact ⟨8, 254, a, 1, rfl, rfl, rfl, by decide, by decide, rfl⟩
  case round =>
    obtain ⟨f, m, x, q, rfl, rfl, rfl, hk, h254, hg⟩ := hrel
    have o1 := i64_and1 h254
    by_cases h0 : 0 < m
    · by_cases hm : m % 2 = 1
      · have o2 : bits .and .i64 (m : Int) 1 = 1 := by rw [o1, hm]; rfl
        rw [pwr_odd hm hk] at hg
        have HG := Lib.hid hg
        clear o1 hg
        go_wp2_with fail
        refine (fMul_any q x _).mono ?_
        rintro e w1 ⟨rfl, rfl⟩
        go_wp2_with fail
        go_round
        case rel => exact ⟨f, m - 1, x, _, rfl, by go_num, rfl, by omega, by omega, HG.out⟩
        case measure => simp [intOf]; omega
      · have o2 : bits .and .i64 (m : Int) 1 = 0 := by rw [o1]; omega
        cases f with
        | zero => simp at hk; omega
        | succ f =>
          rw [pwr_even hm] at hg
          have HG := Lib.hid hg
          have hk2 : m / 2 < 2 ^ f := by rw [Nat.pow_succ] at hk; omega
          clear o1 hg hk
          go_wp2_with fail
          refine (fMul_any x x _).mono ?_
          rintro e w1 ⟨rfl, rfl⟩
          go_wp2_with fail
          go_round
          case rel => exact ⟨f, m / 2, _, q, rfl, by go_num, rfl, hk2, by omega, HG.out⟩
          case measure => simp [intOf]; omega
    · obtain rfl : m = 0 := by omega
      rw [pwr_zero] at hg
      have HG := Lib.hid hg
      clear hg hk o1
      go_wp2_with fail
      go_ret
      exact ⟨by rw [HG.out]; rfl, rfl⟩
theorem rl_or (a : UInt8) : bits .or .u8 ((a.toNat : Int) * 2 % 256) ((a.toNat : Int) / 128) = ((rl1 a).toNat : Int) := by
  have := a.toNat_lt
  rw [rl1_toNat, show (a.toNat : Int) * 2 % 256 = (((2 * a.toNat) % 256 : Nat) : Int) by omega, show (a.toNat : Int) / 128 = ((a.toNat / 128 : Nat) : Int) by omega, u8_or_nat _ _ (by omega) (by omega)]
theorem rl8_any (a : UInt8) (w : World) : Calls Tryz.prog 230 #[.int .u8 (a.toNat : Int), .int .i64 1] w fun e w' => e = .returned (.int .u8 ((rl1 a).toNat : Int)) ∧ w = w' := by
  have hm : bits .and .u64 1 7 = 1 := by decide
  have HX := Lib.hid (rl_or a)
  go_enter Tryz.func230, Tryz.ntmps230
  go_wp2_with fail
  go_ret
  exact ⟨by rw [← HX.out]; first | done | rfl, rfl⟩
theorem aff_flat (i : UInt8) : ((((i ^^^ 99) ^^^ rl1 i) ^^^ rl1 (rl1 i)) ^^^ rl1 (rl1 (rl1 i))) ^^^ rl1 (rl1 (rl1 (rl1 i))) = affG i := rfl
/-- Behind k turns. -/
def rlN : Nat → UInt8 → UInt8
  | 0, i => i
  | k + 1, i => rl1 (rlN k i)
def affN : Nat → UInt8 → UInt8
  | 0, i => i ^^^ 99
  | k + 1, i => affN k i ^^^ rlN (k + 1) i
set_option maxHeartbeats 1000000 in
theorem fBox_any (a : UInt8) (w : World) : Calls Tryz.prog 226 #[.int .u8 (a.toNat : Int)] w fun e w' => e = .returned (.int .u8 ((sb a).toNat : Int)) ∧ w = w' := by
  have HS := Lib.hid (boxG_sb a)
  have HG := Lib.hid (show affN 4 (invG a) = boxG a from rfl)
  have ox := bx_xor (invG a) 99
  rw [show ((99 : UInt8).toNat : Int) = 99 from rfl] at ox
  go_enter Tryz.func226, Tryz.ntmps226
  go_wp2_with fail
  refine (fInv_any a _).mono ?_
  rintro e w1 ⟨rfl, rfl⟩
  go_wp2_with fail
  go_loop [3, 4, 9] (fun i p k => ∃ j : Nat, j ≤ 4 ∧ k = .int .i64 j ∧ i = .int .u8 ((rlN j (invG a)).toNat : Int) ∧ p = .int .u8 ((affN j (invG a)).toNat : Int)) (fun _ _ k => 4 - (intOf k).toNat)
  case atStart => exact ⟨0, by omega, rfl, rfl, rfl⟩
  case round =>
    obtain ⟨j, hj, rfl, rfl, rfl⟩ := hrel
    clear ox
    by_cases hlt : j < 4
    · have ox := bx_xor (affN j (invG a)) (rl1 (rlN j (invG a)))
      go_wp2_with fail
      refine (rl8_any _ _).mono ?_
      rintro e w1 ⟨rfl, rfl⟩
      go_wp2_with fail
      go_round
      case rel => exact ⟨j + 1, by omega, by go_num, rfl, rfl⟩
      case measure => simp [intOf]; omega
    · obtain rfl : j = 4 := by omega
      go_wp2_with fail
      go_ret
      exact ⟨by rw [HG.out, HS.out]; rfl, rfl⟩
end Go.Proofs.YtogpnlfbdhddmaaGreatDoor
namespace Go.Proofs.YtogpnlfbdhddmaaGreatDoor
open Go.RowKit

/-! ### cells set one by one -/
def setsTo (f : Nat → UInt8) (l : List UInt8) : Nat → List UInt8
  | 0 => l
  | j + 1 => (setsTo f l j).set j (f j)
theorem length_setsTo (f : Nat → UInt8) (l : List UInt8) : ∀ j, (setsTo f l j).length = l.length
  | 0 => rfl
  | j + 1 => by show ((setsTo f l j).set j _).length = _; rw [List.length_set, length_setsTo f l j]
theorem setsTo_from (f : Nat → UInt8) (l : List UInt8) : ∀ j t, j ≤ t → (setsTo f l j)[t]? = l[t]?
  | 0, _, _ => rfl
  | j + 1, t, h => by
    show ((setsTo f l j).set j _)[t]? = _
    rw [List.getElem?_set_ne (by omega)]
    exact setsTo_from f l j t (by omega)
theorem setsTo_below (f : Nat → UInt8) (l : List UInt8) : ∀ j t, t < j → j ≤ l.length → (setsTo f l j)[t]? = some (f t)
  | 0, _, h, _ => absurd h (by omega)
  | j + 1, t, h, hl => by
    show ((setsTo f l j).set j _)[t]? = _
    by_cases e : t = j
    · subst e
      rw [List.getElem?_set_self (by rw [length_setsTo]; omega)]
    · rw [List.getElem?_set_ne (by omega)]
      exact setsTo_below f l j t (by omega) (by omega)
theorem setsTo_all (f : Nat → UInt8) (l : List UInt8) {n : Nat} (h : l.length = n) : setsTo f l n = (List.range n).map f := by
  apply List.ext_getElem?
  intro t
  by_cases ht : t < n
  · rw [setsTo_below f l n t ht (by omega)]; simp [ht]
  · rw [List.getElem?_eq_none (by rw [length_setsTo]; omega), List.getElem?_eq_none (by simp; omega)]
theorem map_xorL {l k : List UInt8} (hl : l.length = 16) (hk : k.length = 16) : (List.range 16).map (fun i => l.getD i 0 ^^^ k.getD i 0) = xorL l k := by
  apply List.ext_getElem?
  intro t
  by_cases ht : t < 16
  · rw [getD_xorL l k t (by omega) (by omega)]
    simp [ht, hl, hk]
  · rw [List.getElem?_eq_none (by simp; omega), List.getElem?_eq_none (by rw [length_xorL]; omega)]

/-! ### a block of bytes known whole -/
theorem bvA_at (l : List UInt8) (j : Nat) (h : j < l.length) : (bv l).toArray[j]? = some (u8v (l.getD j 0)) := by
  rw [List.getElem?_toArray, bv_at l j h]
  simp [h]
theorem bvA_set (l : List UInt8) (j : Nat) (c : UInt8) : (bv l).toArray.setIfInBounds j (u8v c) = (bv (l.set j c)).toArray := by
  rw [bv_set, List.setIfInBounds_toArray]
/-- A block of the bytes l. -/
abbrev Bk (w : World) (g : Nat) (t : TypeId) (l : List UInt8) : Prop := Blk w g t (bv l).toArray
theorem Bk.at_ {w : World} {g : Nat} {t : TypeId} {l : List UInt8} (h : Bk w g t l) (j : Nat) (hj : j < l.length) : w.cell? ⟨g, j, none⟩ = some (u8v (l.getD j 0)) := (Blk.cell h j).trans (bvA_at l j hj)
theorem Bk.set_ {w : World} {g : Nat} {t : TypeId} {l : List UInt8} (h : Bk w g t l) (j : Nat) (c : UInt8) : Bk (w.setCell ⟨g, j, none⟩ (u8v c)) g t (l.set j c) := by
  have := Blk.set h j (u8v c); rwa [bvA_set] at this
/-- Behind j places. -/
def SetRel (w : World) (g : Nat) (t : TypeId) (f : Nat → UInt8) (l : List UInt8) (X : World → Prop) (i : Value) (wr : World) : Prop :=
  ∃ j : Nat, j ≤ 16 ∧ i = .int .i64 j ∧ Bk wr g t (setsTo f l j) ∧ Grew (· = g) w wr ∧ X wr
theorem SetRel.drew {w wr : World} {g : Nat} {t : TypeId} {f : Nat → UInt8} {l : List UInt8} {X : World → Prop} {i : Value} (h : SetRel w g t f l X i wr) (hX : ∀ w, X w → X w.drew) : SetRel w g t f l X i wr.drew := by
  obtain ⟨j, h1, h2, h3, h4, h5⟩ := h
  exact ⟨j, h1, h2, h3.drew, h4.drew, hX _ h5⟩
theorem getD_setsTo_at {f : Nat → UInt8} {l : List UInt8} {j : Nat} : (setsTo f l j).getD j 0 = l.getD j 0 := by
  rw [List.getD_eq_getElem?_getD, setsTo_from f l j j (Nat.le_refl _), List.getD_eq_getElem?_getD]

/-- What lay, mix and turn leave. -/
def BlkOut (g : Nat) (t : TypeId) (l : List UInt8) (w : World) (e : Ending) (w' : World) : Prop := e = .returned (.tuple #[]) ∧ Bk w' g t l ∧ Grew (· = g) w w'
set_option maxRecDepth 100000 in
set_option maxHeartbeats 1000000 in
theorem lay_any (g : Nat) (t : TypeId) (l k : List UInt8) (w : World) (hb : Bk w g t l) (hl : l.length = 16) (hk : k.length = 16) :
    Calls Tryz.prog 172 #[.pointer (some ⟨g, 0, none⟩), .agg (bv k).toArray] w (BlkOut g t (xorL l k) w) := by
  have HB := Lib.hid hb
  have hgl := hb.lt
  have HM := Lib.hid (map_xorL hl hk)
  have hks : (bv k).toArray.size = 16 := by simp [length_bv, hk]
  clear hb
  obtain ⟨ka, hka⟩ : ∃ ka, ka = (bv k).toArray := ⟨_, rfl⟩
  have HKA := Lib.hid hka
  rw [← hka] at hks
  rw [← hka]
  clear hka
  go_enter Tryz.func172, Tryz.ntmps172
  go_wp2_with fail
  go_loopw [4, 5] (fun _ i wr => SetRel w g t (fun i => l.getD i 0 ^^^ k.getD i 0) l (fun wr => Bk wr w.heap.size 227 k) i wr) (fun _ i _ => 16 - (intOf i).toNat)
  case atStart => exact ⟨0, by omega, rfl, HB.out.alloc _, Grew.of_new ((Below.refl _ _).alloc (Nat.le_refl _) _), by rw [HKA.out]; exact Blk.new _ _ _⟩
  case round =>
    obtain ⟨j, hj, rfl, hbk, hgr, hkk⟩ := hrel
    by_cases hlt : j < 16
    · have c1 := Bk.at_ hbk j (by rw [length_setsTo]; omega)
      rw [getD_setsTo_at] at c1
      have c2 := Bk.at_ hkk j (by omega)
      have f1 := Blk.frozen hbk j
      have hne : SetRel w g t (fun i => l.getD i 0 ^^^ k.getD i 0) l (fun wr => Bk wr w.heap.size 227 k) (.int .i64 ((j : Int) + 1)) _ :=
        ⟨j + 1, by omega, by go_num, Bk.set_ hbk j _, hgr.set (p := ⟨g, j, none⟩) (.inl rfl) _, hkk.far (by show w.heap.size ≠ g; omega) _⟩
      have HNE := Lib.hid hne
      have e1 := bx_xor (l.getD j 0) (k.getD j 0)
      clear hne hbk hgr hkk
      unfold u8v at c1 c2 HNE
      generalize ((l.getD j 0).toNat : Int) = X at c1 e1
      generalize ((k.getD j 0).toNat : Int) = Y at c2 e1
      generalize ((l.getD j 0 ^^^ k.getD j 0).toNat : Int) = Z at HNE e1
      go_wp2_with fail
      go_region
      go_wp2_with fail
      go_roundw
      case rel => exact HNE.out.drew fun _ h => h.drew
      case measure => simp [intOf]; omega
    · obtain rfl : j = 16 := by omega
      rw [setsTo_all _ l hl, HM.out] at hbk
      have HBK := Lib.hid hbk
      have HGR := Lib.hid hgr
      clear hbk hgr hkk
      go_wp2_with fail
      go_end0
      exact ⟨rfl, HBK.out, HGR.out⟩
/-- The map's bytes stand in block kb from cell o on. -/
def BoxAt (w : World) (kb o : Nat) : Prop := ∀ i, i < 256 → w.cell? ⟨kb, o + i, none⟩ = some (u8v (sb (UInt8.ofNat i)))
/-! ### arrays out of cells, and into new ones -/
section
variable {P : Program}
theorem run_load_cells (w : World) (b o : Nat) (ty : TypeId) (cs : Array Value) (d : TypeDesc) (hc : ∀ j u, cs[j]? = some u → w.cell? ⟨b, o + j, none⟩ = some u)
    (hu : P.underlying ty = some d) (hd : (match d with | .struct _ | .array _ _ => true | _ => false) = true) (hi : (P.info? ty).map (·.size) = some cs.size) :
    (loadVar ty ⟨b, o, none⟩).run P w = .ok (.agg cs) w := by
  have hl : (loadCells ⟨b, o, none⟩ cs.toList.length).run P w = .ok cs.toList.toArray w :=
    run_loadCells_list (P := P) w ⟨b, o, none⟩ cs.toList (fun j v hv => by
      have hadd : (⟨b, o, none⟩ : Addr).add j = ⟨b, o + j, none⟩ := by unfold Addr.add; split <;> simp_all
      rw [hadd]
      exact hc j v (by simpa using hv))
  cases hq : P.info? ty with
  | none => simp [hq] at hi
  | some i =>
    have hs : i.size = cs.size := by simpa [hq] using hi
    have hagg : (isAgg ty).run P w = .ok true w := by
      unfold isAgg
      rw [Sem.run_bind, run_underlying hu w]
      cases d <;> simp_all
    simp only [Array.length_toList, Array.toArray_toList] at hl
    simp [loadVar, Sem.run_bind, hagg, sizeOf, typeInfo, hq, hs, hl]
theorem wpList_load_cells {ops : Array Oper} {rest : List Oper} {o : Oper} {a : Act} {w : World} {Q : Exit → Act → World → Prop} (hgd : o.guard = none) (ty : TypeId) (x : Operand) (ho : o.op = .load ty x)
    (b off : Nat) (hx : a.eval x = .pointer (some ⟨b, off, none⟩)) (cs : Array Value) (d : TypeDesc) (hc : ∀ j u, cs[j]? = some u → w.cell? ⟨b, off + j, none⟩ = some u)
    (hu : P.underlying ty = some d) (hd : (match d with | .struct _ | .array _ _ => true | _ => false) = true) (hi : (P.info? ty).map (·.size) = some cs.size)
    (h : wpList P ops Q rest (a.put o.dst (.agg cs)) w) : wpList P ops Q (o :: rest) a w :=
  wpList_plain hgd fun _ hK => by
    unfold Oper.wp execOp
    simp only [ho, hx, Instr.loadAt, Instr.sureAddr, Sem.run_bind, Sem.run_pure, Result.andThen_ok, run_load_cells w b off ty cs d hc hu hd hi]
    exact hK _ _ h
/-- A whole array into a block that has just been made. -/
theorem wpList_store_new {ops : Array Oper} {rest : List Oper} {o : Oper} {a : Act} {w : World} {Q : Exit → Act → World → Prop} (hgd : o.guard = none) (ty : TypeId) (x y : Operand) (ho : o.op = .store ty x y)
    (t : TypeId) (old cells : Array Value) (hx : a.eval x = .pointer (some ⟨w.heap.size, 0, none⟩)) (hy : a.eval y = .agg cells)
    (hi : (P.info? ty).map (·.size) = some cells.size) (hold : old.size = cells.size) (h1 : cells.all (·.oneCell') = true)
    (h : wpList P ops Q rest (a.put o.dst undef) (w.alloc (.cells cells t))) : wpList P ops Q (o :: rest) a (w.alloc (.cells old t)) :=
  wpList_store_row hgd ty x y ho w.heap.size cells hx hy t old (heap_alloc_last w _) hi hold h1 (by rw [World.setRow_alloc_new]; exact h)
end
theorem bvA_size (l : List UInt8) : (bv l).toArray.size = l.length := by simp [length_bv]
theorem bvA_one (l : List UInt8) : (bv l).toArray.all (·.oneCell') = true := by
  rw [List.all_toArray, List.all_eq_true]; exact fun u hu => bv_one l u hu
theorem block_info {l : List UInt8} (h : l.length = 16) : (Tryz.prog.info? 227).map (·.size) = some (bv l).toArray.size := by
  rw [bvA_size, h]; kernel_rfl
theorem quad_info {l : List UInt8} (h : l.length = 4) : (Tryz.prog.info? 263).map (·.size) = some (bv l).toArray.size := by
  rw [bvA_size, h]; kernel_rfl
theorem Bk.cells {w : World} {g : Nat} {t : TypeId} {l : List UInt8} (h : Bk w g t l) : ∀ j u, (bv l).toArray[j]? = some u → w.cell? ⟨g, 0 + j, none⟩ = some u := by
  intro j u hj; rw [Nat.zero_add, Blk.cell h j]; exact hj
set_option maxRecDepth 100000 in
set_option maxHeartbeats 1000000 in
theorem turn_any (g kb o : Nat) (t : TypeId) (l : List UInt8) (w : World) (hb : Bk w g t l) (hl : l.length = 16) (hx : BoxAt w kb o) (hk : kb < w.heap.size) (hne : kb ≠ g) :
    Calls Tryz.prog 173 #[.pointer (some ⟨g, 0, none⟩), .pointer (some ⟨kb, o, none⟩)] w (BlkOut g t (turnL l) w) := by
  have HB := Lib.hid hb
  have HX := Lib.hid hx
  have hgl := hb.lt
  have HC := Lib.hid (Bk.cells hb)
  have HI := Lib.hid (block_info hl)
  have H1 := Lib.hid (bvA_one l)
  have HS := Lib.hid (show (16 : Nat) = (bv l).toArray.size by rw [bvA_size, hl])
  clear hb hx
  obtain ⟨ka, hka⟩ : ∃ ka, ka = (bv l).toArray := ⟨_, rfl⟩
  have HKA := Lib.hid hka
  rw [← hka] at HC HI H1 HS
  clear hka
  go_enter Tryz.func173, Tryz.ntmps173
  go_wp2_with (first
    | (refine wpList_load_cells rfl 227 (.tmp 7) rfl g 0 rfl ka _ HC.out Tryz.underlying227 rfl HI.out ?_)
    | (refine wpList_store_new rfl 227 (.tmp 4) (.tmp 8) rfl _ _ ka rfl rfl HI.out HS.out H1.out ?_))
  go_loopw [5, 9] (fun _ i wr => SetRel w g t (fun i => sb (l.getD (trn i) 0)) l (fun wr => Bk wr w.heap.size 227 l ∧ BoxAt wr kb o) i wr) (fun _ i _ => 16 - (intOf i).toNat)
  case atStart => exact ⟨0, by omega, rfl, HB.out.alloc _, Grew.of_new ((Below.refl _ _).alloc (Nat.le_refl _) _), by rw [HKA.out]; exact Blk.new _ _ _, fun i hi => (World.cell?_alloc_lt _ _ _ hk).trans (HX.out i hi)⟩
  case round =>
    obtain ⟨j, hj, rfl, hbk, hgr, hkk, hbx⟩ := hrel
    by_cases hlt : j < 16
    · have htr : trn j < 16 := Nat.mod_lt _ (by decide)
      have c2 := Bk.at_ hkk (trn j) (by omega)
      have hxl := (l.getD (trn j) 0).toNat_lt
      have c3 := hbx (l.getD (trn j) 0).toNat hxl
      rw [UInt8.ofNat_toNat] at c3
      have c1 := Bk.at_ hbk j (by rw [length_setsTo]; omega)
      have f1 := Blk.frozen hbk j
      have hne : SetRel w g t (fun i => sb (l.getD (trn i) 0)) l (fun wr => Bk wr w.heap.size 227 l ∧ BoxAt wr kb o) (.int .i64 ((j : Int) + 1)) _ :=
        ⟨j + 1, by omega, by go_num, Bk.set_ hbk j _, hgr.set (p := ⟨g, j, none⟩) (.inl rfl) _, hkk.far (by show w.heap.size ≠ g; omega) _, fun i hi => (World.cell?_setCell_far _ _ _ _ (by show g ≠ kb; omega)).trans (hbx i hi)⟩
      have HNE := Lib.hid hne
      have e0 : ((j : Int)).tmod 4 = (j : Int) % 4 := Int.tmod_eq_emod_of_nonneg (by omega)
      have e1 : (((j : Int) + 4 * ((j : Int) % 4)).tmod 16) = (trn j : Nat) := by rw [Int.tmod_eq_emod_of_nonneg (by omega)]; unfold trn; omega
      have e2 : (((j : Int) + 4 * ((j : Int) % 4)) % 16) = (trn j : Nat) := by unfold trn; omega
      clear hne hbk hgr hkk hbx
      unfold u8v at c1 c2 c3 HNE
      generalize ((setsTo (fun i => sb (l.getD (trn i) 0)) l j).getD j 0).toNat = Y at c1
      generalize (l.getD (trn j) 0).toNat = X at c2 c3 hxl
      generalize ((sb (l.getD (trn j) 0)).toNat : Int) = Z at c3 HNE
      go_wp2_with fail
      go_region
      go_wp2_with fail
      go_roundw
      case rel => exact HNE.out.drew fun _ h => ⟨h.1.drew, fun i hi => h.2 i hi⟩
      case measure => simp [intOf]; omega
    · obtain rfl : j = 16 := by omega
      rw [setsTo_all _ l hl] at hbk
      have HBK := Lib.hid hbk
      have HGR := Lib.hid hgr
      clear hbk hgr hkk hbx
      go_wp2_with fail
      go_end0
      exact ⟨rfl, HBK.out, HGR.out⟩

theorem mul2 (a : UInt8) : mulG a 2 = xt a := by
  have e : ∀ n, n < 256 → mulG (UInt8.ofNat n) 2 = xt (UInt8.ofNat n) := by decide +kernel
  have h := e a.toNat a.toNat_lt
  rwa [UInt8.ofNat_toNat] at h
theorem atwice_any (a : UInt8) (w : World) : Calls Tryz.prog 210 #[.int .u8 (a.toNat : Int)] w fun e w' => e = .returned (.int .u8 ((xt a).toNat : Int)) ∧ w = w' := by
  have HM := Lib.hid (mul2 a)
  have h2 : ((2 : UInt8).toNat : Int) = 2 := rfl
  go_enter Tryz.func210, Tryz.ntmps210
  go_wp2_with fail
  have hc := Lib.hid (fMul_any a 2 w)
  rw [h2] at hc
  refine hc.out.mono ?_
  rw [HM.out]
  rintro e w1 ⟨rfl, rfl⟩
  clear h2 hc
  go_wp2_with fail
  go_ret
  exact ⟨rfl, rfl⟩
/-- A column. -/
def colL (l : List UInt8) (q : Nat) : List UInt8 := [l.getD (4 * q) 0, l.getD (4 * q + 1) 0, l.getD (4 * q + 2) 0, l.getD (4 * q + 3) 0]
theorem colL_at (l : List UInt8) (q : Nat) {r : Nat} (h : r < 4) : (colL l q).getD r 0 = l.getD (4 * q + r) 0 := by
  have : r = 0 ∨ r = 1 ∨ r = 2 ∨ r = 3 := by omega
  rcases this with rfl | rfl | rfl | rfl <;> rfl
def MixIn (w : World) (g : Nat) (t : TypeId) (l : List UInt8) (q xb : Nat) (i : Value) (k : Nat) (wr : World) : Prop :=
  ∃ r : Nat, r ≤ 4 ∧ k = 4 - r ∧ i = .int .i64 r ∧ Bk wr g t (setsTo (mixB l) l (4 * q + r)) ∧ Bk wr xb 263 (colL l q) ∧ Grew (· = g) w wr
def MixOut (w : World) (g : Nat) (t : TypeId) (l : List UInt8) (c : Value) (k : Nat) (wr : World) : Prop :=
  ∃ q : Nat, q ≤ 4 ∧ k = 4 - q ∧ c = .int .i64 (4 * q : Nat) ∧ Bk wr g t (setsTo (mixB l) l (4 * q)) ∧ Grew (· = g) w wr
theorem MixIn.drew {w wr : World} {g : Nat} {t : TypeId} {l : List UInt8} {q xb : Nat} {i : Value} {k : Nat} (h : MixIn w g t l q xb i k wr) (n : Nat) : MixIn w g t l q xb i k (wr.drewN n) := by
  obtain ⟨r, h1, h2, h3, h4, h5, h6⟩ := h
  exact ⟨r, h1, h2, h3, h4.drewN n, h5.drewN n, h6.drewN n⟩
theorem mix_at (l : List UInt8) (q : Nat) {r : Nat} (h : r < 4) (al : UInt8) (hal : al = ((((colL l q).getD 0 0 ^^^ (colL l q).getD 1 0) ^^^ (colL l q).getD 2 0) ^^^ (colL l q).getD 3 0)) :
    mixB l (4 * q + r) = (colL l q).getD r 0 ^^^ (al ^^^ xt ((colL l q).getD r 0 ^^^ (colL l q).getD ((r + 1) % 4) 0)) := by
  unfold mixB
  rw [hal, show (4 * q + r) / 4 = q by omega, show (4 * q + r) % 4 = r by omega, colL_at l q h, colL_at l q (show (r + 1) % 4 < 4 by omega), colL_at l q (show 0 < 4 by omega), colL_at l q (show 1 < 4 by omega), colL_at l q (show 2 < 4 by omega), colL_at l q (show 3 < 4 by omega)]
  rfl
set_option maxRecDepth 100000 in
set_option maxHeartbeats 4000000 in
theorem mix_any (g : Nat) (t : TypeId) (l : List UInt8) (w : World) (hb : Bk w g t l) (hl : l.length = 16) :
    Calls Tryz.prog 174 #[.pointer (some ⟨g, 0, none⟩)] w (BlkOut g t (mixL l) w) := by
  have HB := Lib.hid hb
  have hgl := hb.lt
  clear hb
  go_enter Tryz.func174, Tryz.ntmps174
  go_wp2_with fail
  go_loopg [2] 4 (fun k c wr => MixOut w g t l c k wr)
  case atStart => exact ⟨0, by omega, rfl, rfl, HB.out, Grew.refl _ _⟩
  case round =>
    obtain ⟨q, hq, hgk, rfl, hbk, hgr⟩ := hrel
    have HGK := Lib.hid hgk
    clear hgk
    by_cases hlt : q < 4
    · have hc : ∀ r, r < 4 → wr.cell? ⟨g, 4 * q + r, none⟩ = some (u8v ((colL l q).getD r 0)) := fun r hr => by
        rw [colL_at l q hr, Bk.at_ hbk (4 * q + r) (by rw [length_setsTo]; omega), List.getD_eq_getElem?_getD, setsTo_from _ _ _ _ (by omega), ← List.getD_eq_getElem?_getD]
      have HCL := Lib.hid (show ∀ j u, (bv (colL l q)).toArray[j]? = some u → wr.cell? ⟨g, 4 * q + j, none⟩ = some u from fun j u hj => by
        by_cases h4 : j < 4
        · rw [hc j h4, ← hj, bvA_at _ _ (by show j < 4; exact h4)]
        · rw [Array.getElem?_eq_none (by rw [bvA_size]; show 4 ≤ j; omega)] at hj; cases hj)
      have HI := Lib.hid (quad_info (l := colL l q) rfl)
      have H1 := Lib.hid (bvA_one (colL l q))
      have HS := Lib.hid (show (4 : Nat) = (bv (colL l q)).toArray.size from rfl)
      obtain ⟨ka, hka⟩ : ∃ ka, ka = (bv (colL l q)).toArray := ⟨_, rfl⟩
      have HKA := Lib.hid hka
      rw [← hka] at HCL HI H1 HS
      have hn : ∀ r, r < 4 → (wr.alloc (.cells ka 263)).cell? ⟨wr.heap.size, r, none⟩ = some (u8v ((colL l q).getD r 0)) := fun r hr => by
        rw [hka, cell?_new, bvA_at _ _ (by show r < 4; exact hr)]
      have n0 := hn 0 (by decide)
      have n1 := hn 1 (by decide)
      have n2 := hn 2 (by decide)
      have n3 := hn 3 (by decide)
      have e1 := bx_xor ((colL l q).getD 0 0) ((colL l q).getD 1 0)
      have e2 := bx_xor ((colL l q).getD 0 0 ^^^ (colL l q).getD 1 0) ((colL l q).getD 2 0)
      have e3 := bx_xor (((colL l q).getD 0 0 ^^^ (colL l q).getD 1 0) ^^^ (colL l q).getD 2 0) ((colL l q).getD 3 0)
      have hgw := hgr.size
      have HBK := Lib.hid hbk
      have HGR := Lib.hid hgr
      clear hbk hgr hc hn hka
      unfold u8v at n0 n1 n2 n3
      obtain ⟨al, hal⟩ : ∃ al, al = ((((colL l q).getD 0 0 ^^^ (colL l q).getD 1 0) ^^^ (colL l q).getD 2 0) ^^^ (colL l q).getD 3 0) := ⟨_, rfl⟩
      rw [← hal] at e3
      have HAL := Lib.hid hal
      clear hal
      generalize (((colL l q).getD 0 0 ^^^ (colL l q).getD 1 0) ^^^ (colL l q).getD 2 0).toNat = X2 at e2 e3
      generalize ((colL l q).getD 0 0 ^^^ (colL l q).getD 1 0).toNat = X1 at e1 e2
      generalize ((colL l q).getD 0 0).toNat = Y0 at n0 e1
      generalize ((colL l q).getD 1 0).toNat = Y1 at n1 e1
      generalize ((colL l q).getD 2 0).toNat = Y2 at n2 e2
      generalize ((colL l q).getD 3 0).toNat = Y3 at n3 e3
      have hat : ∀ c w, (Instr.arrayAt 263 (.slice (some ⟨g, 4 * q, none⟩) 4 c)).run Tryz.prog w = .ok (.pointer (some ⟨g, 4 * q, none⟩)) w := fun c w => run_arrayAt w _ _ 4 _ 4 c Tryz.underlying263 (Nat.le_refl _)
      have c47 : (4 * (q : Int)) + 4 ≤ 16 := by omega
      have c48 : (0 : Int) ≤ 4 * (q : Int) := by omega
      have c49 : 4 * (q : Int) ≤ 4 * (q : Int) + 4 := by omega
      go_wp2_with (first
        | (refine wpList_load_cells rfl 263 (.tmp 16) rfl g (4 * q) rfl ka _ HCL.out Tryz.underlying263 rfl HI.out ?_)
        | (refine wpList_store_new rfl 263 (.tmp 3) (.tmp 17) rfl _ _ ka rfl rfl HI.out HS.out H1.out ?_))
      have hblk0 : Bk (wr.alloc (.cells ka 263)) g t (setsTo (mixB l) l (4 * q)) := HBK.out.alloc _
      have hcol0 : Bk (wr.alloc (.cells ka 263)) wr.heap.size 263 (colL l q) := by rw [HKA.out]; exact Blk.new _ _ _
      have HST := Lib.hid (show MixIn w g t l q wr.heap.size (.int .i64 0) 4 (wr.alloc (.cells ka 263)) from ⟨0, by omega, rfl, rfl, hblk0, hcol0, HGR.out.trans (Grew.of_new ((Below.refl _ _).alloc (Nat.le_refl _) _))⟩)
      clear hblk0 hcol0 n0 n1 n2 n3 e1 e2 e3 HCL HI H1 HS hat
      obtain ⟨xb, hxb⟩ : ∃ xb, xb = wr.heap.size := ⟨_, rfl⟩
      rw [← hxb] at HST ⊢
      have hgx : g < xb := by omega
      have HXB := Lib.hid hxb
      clear hxb hgw
      obtain ⟨ok, hok⟩ : ∃ ok, ok = gk := ⟨_, rfl⟩
      have HOK := Lib.hid hok
      clear hok
      go_loopg [5, 29] 4 (fun k _ i wr => MixIn w g t l q xb i k wr)
      case atStart => exact HST.out
      case round =>
        clear HST
        obtain ⟨r, hr, hgk2, rfl, hbk, hcl, hgr⟩ := hrel
        have HGK2 := Lib.hid hgk2
        clear hgk2
        by_cases hlr : r < 4
        · obtain ⟨m, hm⟩ : ∃ m, m = (r + 1) % 4 := ⟨_, rfl⟩
          have hr1 : m < 4 := by omega
          have k4 : ((r : Int) + 1).tmod 4 = (m : Int) := by rw [Int.tmod_eq_emod_of_nonneg (by omega)]; omega
          have k5 : ((r : Int) + 1) % 4 = (m : Int) := by omega
          have k6 : (m : Int) < 4 := by omega
          have hmx := mix_at l q hlr al HAL.out
          rw [← hm] at hmx
          clear hm
          have c1 := Bk.at_ hbk (4 * q + r) (by rw [length_setsTo]; omega)
          rw [getD_setsTo_at, ← colL_at l q hlr] at c1
          have c2 := Bk.at_ hcl r (by show r < 4; omega)
          have c3 := Bk.at_ hcl m (by show m < 4; omega)
          have f1 := Blk.frozen hbk (4 * q + r)
          have hne : MixIn w g t l q xb (.int .i64 ((r : Int) + 1)) (3 - r) (wr.setCell ⟨g, 4 * q + r, none⟩ (u8v (mixB l (4 * q + r)))) :=
            ⟨r + 1, by omega, by omega, by go_num, Bk.set_ hbk (4 * q + r) _, hcl.far (by show xb ≠ g; omega) _, hgr.set (p := ⟨g, 4 * q + r, none⟩) (.inl rfl) _⟩
          rw [hmx] at hne
          clear hmx
          have HNE := Lib.hid hne
          have o1 := bx_xor ((colL l q).getD r 0) ((colL l q).getD m 0)
          have o2 := bx_xor al (xt ((colL l q).getD r 0 ^^^ (colL l q).getD m 0))
          have o3 := bx_xor ((colL l q).getD r 0) (al ^^^ xt ((colL l q).getD r 0 ^^^ (colL l q).getD m 0))
          have HT := Lib.hid (fun w => (atwice_any ((colL l q).getD r 0 ^^^ (colL l q).getD m 0) w).mono fun e w' h => (⟨h.1, h.2.symm⟩ : e = .returned (.int .u8 ((xt ((colL l q).getD r 0 ^^^ (colL l q).getD m 0)).toNat : Int)) ∧ w' = w))
          clear hne hbk hgr hcl
          unfold u8v at c1 c2 c3 HNE
          generalize ((((colL l q).getD r 0) ^^^ (al ^^^ xt ((colL l q).getD r 0 ^^^ (colL l q).getD m 0))).toNat : Int) = Z4 at HNE o3
          generalize ((al ^^^ xt ((colL l q).getD r 0 ^^^ (colL l q).getD m 0)).toNat : Int) = Z3 at o2 o3
          generalize ((xt ((colL l q).getD r 0 ^^^ (colL l q).getD m 0)).toNat : Int) = Z2 at o2 HT
          generalize (((colL l q).getD r 0 ^^^ (colL l q).getD m 0).toNat : Int) = Z1 at o1 HT
          generalize (((colL l q).getD r 0).toNat : Int) = B1 at c1 c2 o1 o3
          generalize (((colL l q).getD m 0).toNat : Int) = B2 at c3 o1
          have cw : ∀ d o u a, ({ heap := wr.heap, tape := wr.tape, drawn := d, os := o, output := u } : World).cell? a = wr.cell? a := fun _ _ _ _ => rfl
          go_wp2_with fail
          have k1 : IntKind.i64.wrap (4 * (q : Int) + (r : Int)) = 4 * (q : Int) + (r : Int) := IntWalk.i64_in _ (by omega)
          have k2 : IntKind.i64.wrap ((r : Int) + 1) = (r : Int) + 1 := IntWalk.i64_in _ (by omega)
          have g1 : (0 : Int) ≤ 4 * (q : Int) + (r : Int) := by omega
          have g2 : 4 * (q : Int) + (r : Int) < 16 := by omega
          have g3 : (4 * (q : Int) + (r : Int)).toNat = 4 * q + r := by omega
          go_still_tail 22, (by kernel_rfl)
          still_call (HT.out _)
          repeat still_step
          refine wpStill_nil ?_
          clear cw k1 k2 g3 k4 k5
          change wpList _ _ _ _ _ wr.drew
          go_wp2_with fail
          go_roundg (3 - r)
          case measure => have := HGK2.out; omega
          case rel => exact HNE.out.drew 1
        · obtain rfl : r = 4 := by omega
          have HBK2 := Lib.hid hbk
          have HGR2 := Lib.hid hgr
          clear hbk hgr hcl
          go_wp2_with fail
          go_roundg (ok - 1)
          case measure => have := HGK.out; have := HOK.out; omega
          case rel => exact ⟨q + 1, by omega, by have := HGK.out; have := HOK.out; omega, by go_num, HBK2.out, HGR2.out⟩
    · obtain rfl : q = 4 := by omega
      rw [setsTo_all _ l hl] at hbk
      have HBK := Lib.hid hbk
      have HGR := Lib.hid hgr
      clear hbk hgr
      go_wp2_with fail
      go_end0
      exact ⟨rfl, HBK.out, HGR.out⟩
end Go.Proofs.YtogpnlfbdhddmaaGreatDoor
namespace Go.Proofs.YtogpnlfbdhddmaaGreatDoor
open Go.RowKit

theorem amid_at (pre xs post : List Value) (j : Nat) (h : j < xs.length) : (pre ++ xs ++ post).toArray[pre.length + j]? = xs[j]? := by
  rw [List.getElem?_toArray, List.append_assoc, List.getElem?_append_right (by omega), show pre.length + j - pre.length = j by omega, List.getElem?_append_left h]
theorem amid_set (pre xs post : List Value) (j : Nat) (u : Value) (h : j < xs.length) : (pre ++ xs ++ post).toArray.setIfInBounds (pre.length + j) u = (pre ++ xs.set j u ++ post).toArray := by
  rw [List.setIfInBounds_toArray, List.append_assoc, List.set_append_right _ _ (by omega), show pre.length + j - pre.length = j by omega, List.set_append_left _ _ h, List.append_assoc]
/-- Its cells: its bytes, the Once, the two maps, the round keys. -/
def akh (k : Value) (d s : Int) : List Value := [k, Value.int .u32 d, Value.int .i32 s, Value.int .u32 0]
def ak (k : Value) (d s : Int) (x y : List UInt8) (r : Value) : List Value := akh k d s ++ (bv x ++ (bv y ++ [r]))
theorem ak_key (k : Value) (d s : Int) (x y : List UInt8) (r : Value) : (ak k d s x y r).toArray[0]? = some k := rfl
theorem ak_d (k : Value) (d s : Int) (x y : List UInt8) (r : Value) : (ak k d s x y r).toArray[1]? = some (.int .u32 d) := rfl
theorem ak_s (k : Value) (d s : Int) (x y : List UInt8) (r : Value) : (ak k d s x y r).toArray[2]? = some (.int .i32 s) := rfl
theorem ak_setd (k : Value) (d s d' : Int) (x y : List UInt8) (r : Value) : (ak k d s x y r).toArray.setIfInBounds 1 (.int .u32 d') = (ak k d' s x y r).toArray := by simp [ak, akh]
theorem ak_sets (k : Value) (d s s' : Int) (x y : List UInt8) (r : Value) : (ak k d s x y r).toArray.setIfInBounds 2 (.int .i32 s') = (ak k d s' x y r).toArray := by simp [ak, akh]
theorem ak_x (k : Value) (d s : Int) (x y : List UInt8) (r : Value) : ak k d s x y r = akh k d s ++ bv x ++ (bv y ++ [r]) := by simp [ak]
theorem ak_y (k : Value) (d s : Int) (x y : List UInt8) (r : Value) : ak k d s x y r = (akh k d s ++ bv x) ++ bv y ++ [r] := by simp [ak]
theorem ak_r (k : Value) (d s : Int) (x y : List UInt8) (r : Value) : ak k d s x y r = (akh k d s ++ bv x ++ bv y) ++ [r] ++ [] := by simp [ak]
theorem ak_xat (k : Value) (d s : Int) (x y : List UInt8) (r : Value) (i : Nat) (h : i < x.length) : (ak k d s x y r).toArray[4 + i]? = some (u8v (x.getD i 0)) := by
  rw [ak_x]
  have := amid_at (akh k d s) (bv x) (bv y ++ [r]) i (by rw [length_bv]; exact h)
  rw [bv_at x i h] at this
  refine Eq.trans this ?_
  simp [h]
theorem ak_yat (k : Value) (d s : Int) (x y : List UInt8) (r : Value) (i : Nat) (hx : x.length = 256) (h : i < y.length) : (ak k d s x y r).toArray[260 + i]? = some (u8v (y.getD i 0)) := by
  rw [ak_y]
  have := amid_at (akh k d s ++ bv x) (bv y) [r] i (by rw [length_bv]; exact h)
  rw [bv_at y i h, show (akh k d s ++ bv x).length = 260 by rw [List.length_append, length_bv, hx]; rfl] at this
  refine Eq.trans this ?_
  simp [h]
theorem ak_rat (k : Value) (d s : Int) (x y : List UInt8) (r : Value) (hx : x.length = 256) (hy : y.length = 256) : (ak k d s x y r).toArray[516]? = some r := by
  rw [ak_r]
  have := amid_at (akh k d s ++ bv x ++ bv y) [r] [] 0 (by simp)
  rw [show (akh k d s ++ bv x ++ bv y).length = 516 by rw [List.length_append, List.length_append, length_bv, length_bv, hx, hy]; rfl] at this
  exact this
theorem ak_setx (k : Value) (d s : Int) (x y : List UInt8) (r : Value) (i : Nat) (c : UInt8) (h : i < x.length) : (ak k d s x y r).toArray.setIfInBounds (4 + i) (u8v c) = (ak k d s (x.set i c) y r).toArray := by
  rw [ak_x, ak_x, bv_set]
  exact amid_set (akh k d s) (bv x) _ i _ (by rw [length_bv]; exact h)
theorem ak_sety (k : Value) (d s : Int) (x y : List UInt8) (r : Value) (i : Nat) (c : UInt8) (hx : x.length = 256) (h : i < y.length) : (ak k d s x y r).toArray.setIfInBounds (260 + i) (u8v c) = (ak k d s x (y.set i c) r).toArray := by
  rw [ak_y, ak_y, bv_set]
  have := amid_set (akh k d s ++ bv x) (bv y) [r] i (u8v c) (by rw [length_bv]; exact h)
  rwa [show (akh k d s ++ bv x).length = 260 by rw [List.length_append, length_bv, hx]; rfl] at this
theorem ak_setr (k : Value) (d s : Int) (x y : List UInt8) (r r' : Value) (hx : x.length = 256) (hy : y.length = 256) : (ak k d s x y r).toArray.setIfInBounds 516 r' = (ak k d s x y r').toArray := by
  rw [ak_r, ak_r]
  have := amid_set (akh k d s ++ bv x ++ bv y) [r] [] 0 r' (by simp)
  rwa [show (akh k d s ++ bv x ++ bv y).length + 0 = 516 by rw [List.length_append, List.length_append, length_bv, length_bv, hx, hy]; rfl] at this
/-- The map as a row. -/
def sbL : List UInt8 := (List.range 256).map fun i => sb (UInt8.ofNat i)
theorem length_sbL : sbL.length = 256 := by simp [sbL]
theorem sbL_at (i : Nat) (h : i < 256) : sbL.getD i 0 = sb (UInt8.ofNat i) := by simp [sbL, h]
theorem box_of {w : World} {kb : Nat} {t : TypeId} {k : Value} {d s : Int} {y : List UInt8} {r : Value} (h : Blk w kb t (ak k d s sbL y r).toArray) : BoxAt w kb 4 := fun i hi => by
  rw [Blk.cell h, ak_xat _ _ _ _ _ _ _ (by rw [length_sbL]; exact hi), sbL_at i hi]
/-- Behind i bytes of the maps. -/
def MapsRel (w : World) (kb : Nat) (t : TypeId) (k : Value) (x : List UInt8) (r : Value) (i : Value) (wr : World) : Prop :=
  ∃ (j : Nat) (y : List UInt8), j ≤ 256 ∧ i = .int .i64 j ∧ y.length = 256 ∧ Blk wr kb t (ak k 0 1 (setsTo (fun i => sb (UInt8.ofNat i)) x j) y r).toArray ∧ Grew (· = kb) w wr
theorem MapsRel.drew {w wr : World} {kb : Nat} {t : TypeId} {k : Value} {x : List UInt8} {r : Value} {i : Value} (h : MapsRel w kb t k x r i wr) : MapsRel w kb t k x r i wr.drew := by
  obtain ⟨j, y, h1, h2, h3, h4, h5⟩ := h
  exact ⟨j, y, h1, h2, h3, h4.drew, h5.drew⟩
set_option maxRecDepth 100000 in
set_option maxHeartbeats 2000000 in
theorem maps_any (kb : Nat) (t : TypeId) (k r : Value) (x y : List UInt8) (w : World) (hb : Blk w kb t (ak k 0 1 x y r).toArray) (hx : x.length = 256) (hy : y.length = 256) :
    Calls Tryz.prog 208 #[.pointer (some ⟨kb, 0, none⟩)] w fun e w' => e = .returned (.tuple #[]) ∧ ∃ y', y'.length = 256 ∧ Blk w' kb t (ak k 0 1 sbL y' r).toArray ∧ Grew (· = kb) w w' := by
  have HB := Lib.hid hb
  have hkl := hb.lt
  clear hb
  go_enter Tryz.func208, Tryz.ntmps208
  go_wp2_with fail
  go_loopw [2, 3, 4] (fun _ _ i wr => MapsRel w kb t k x r i wr) (fun _ _ i _ => 256 - (intOf i).toNat)
  case atStart => exact ⟨0, y, by omega, rfl, hy, HB.out, Grew.refl _ _⟩
  case round =>
    obtain ⟨j, y2, hj, rfl, hy2, hbk, hgr⟩ := hrel
    by_cases hlt : j < 256
    · obtain ⟨c, hc⟩ : ∃ c, c = UInt8.ofNat j := ⟨_, rfl⟩
      have hcj : c.toNat = j := by rw [hc]; exact u8_of hlt
      have hsl : (setsTo (fun i => sb (UInt8.ofNat i)) x j).length = 256 := by rw [length_setsTo, hx]
      have hX := (sb c).toNat_lt
      have c1 := (Blk.cell hbk (4 + j)).trans (ak_xat _ _ _ _ _ _ j (by omega))
      have c2 := (Blk.cell hbk (260 + (sb c).toNat)).trans (ak_yat _ _ _ _ _ _ (sb c).toNat hsl (by omega))
      have f1 := Blk.frozen hbk (4 + j)
      have f2 := Blk.frozen hbk (260 + (sb c).toNat)
      have hb2 := (hbk.set (4 + j) (u8v (sb c))).set (260 + (sb c).toNat) (u8v c)
      rw [ak_setx _ _ _ _ _ _ _ _ (by omega), ak_sety _ _ _ _ _ _ _ _ (by rw [List.length_set]; exact hsl) (by omega)] at hb2
      have hne : MapsRel w kb t k x r (.int .i64 ((j : Int) + 1)) ((wr.setCell ⟨kb, 4 + j, none⟩ (u8v (sb c))).setCell ⟨kb, 260 + (sb c).toNat, none⟩ (u8v c)) := ⟨j + 1, y2.set (sb c).toNat c, by omega, by go_num, by rw [List.length_set, hy2], by rw [hc] at hb2 ⊢; exact hb2, (hgr.set (p := ⟨kb, 4 + j, none⟩) (.inl rfl) _).set (p := ⟨kb, 260 + (sb c).toNat, none⟩) (.inl rfl) _⟩
      have HNE := Lib.hid hne
      have HBX := Lib.hid (fun w => fBox_any c w)
      rw [hcj] at HBX
      have hj256 : (j : Int) % 256 = j := by omega
      unfold u8v at c1 c2 HNE
      rw [hcj] at HNE
      clear hbk hgr hb2 hne hc hsl hcj
      generalize (sb c).toNat = X at c2 f2 HNE hX HBX
      generalize ((setsTo (fun i => sb (UInt8.ofNat i)) x j).getD j 0).toNat = Y1 at c1
      generalize (y2.getD X 0).toNat = Y2 at c2
      go_wp2_with fail
      refine (HBX.out _).mono ?_
      rintro e w1 ⟨rfl, rfl⟩
      go_wp2_with fail
      go_region
      go_wp2_with fail
      go_roundw
      case rel => exact HNE.out.drew
      case measure => simp [intOf]; omega
    · obtain rfl : j = 256 := by omega
      rw [setsTo_all _ x hx] at hbk
      have HBK := Lib.hid hbk
      have HGR := Lib.hid hgr
      clear hbk hgr
      go_wp2_with fail
      go_end0
      exact ⟨rfl, y2, hy2, HBK.out, HGR.out⟩
end Go.Proofs.YtogpnlfbdhddmaaGreatDoor
namespace Go.Proofs.YtogpnlfbdhddmaaGreatDoor
open Go.RowKit

def topW (key : List UInt8) (k : Nat) : List UInt8 := ((kexp key k).drop (4 * (key.length / 4 + k) - 4)).take 4
def oldW (key : List UInt8) (k : Nat) : List UInt8 := ((kexp key k).drop (4 * k)).take 4
def nxtW (key : List UInt8) (k : Nat) : List UInt8 := xorL (tword (key.length / 4) (key.length / 4 + k) (topW key k)) (oldW key k)
theorem kexp_succ (key : List UInt8) (k : Nat) : kexp key (k + 1) = kexp key k ++ nxtW key k := rfl
theorem length_topW {key : List UInt8} (h : key.length = 16 ∨ key.length = 32) (k : Nat) : (topW key k).length = 4 := by
  unfold topW; rw [List.length_take, List.length_drop, length_kexp key h]; omega
theorem length_oldW {key : List UInt8} (h : key.length = 16 ∨ key.length = 32) (k : Nat) : (oldW key k).length = 4 := by
  unfold oldW; rw [List.length_take, List.length_drop, length_kexp key h]; omega
theorem length_nxtW {key : List UInt8} (h : key.length = 16 ∨ key.length = 32) (k : Nat) : (nxtW key k).length = 4 := by
  unfold nxtW; rw [length_xorL, length_tword _ _ (length_topW h k), length_oldW h]; rfl
/-- What expand has in memory when k words and r bytes have been made. -/
def ExpAt (w wx : World) (kb : Nat) (T : TypeId) (raw : Value) (y key : List UInt8) (k r : Nat) (A : Option Addr) (c : Nat) : Prop :=
  Row wx w.heap.size 1 A (4 * (key.length / 4 + k) + r) c (bv (kexp key k ++ (nxtW key k).take r)) ∧ Blk wx kb T (ak raw 0 1 sbL y (.slice none 0 0)).toArray ∧ Grew (· = kb) w wx ∧ kb < w.heap.size
theorem ExpAt.alloc {w wx : World} {kb : Nat} {T : TypeId} {raw : Value} {y key : List UInt8} {k r : Nat} {A : Option Addr} {c : Nat} (h : ExpAt w wx kb T raw y key k r A c) (o : Obj) : ExpAt w (wx.alloc o) kb T raw y key k r A c :=
  ⟨h.1.alloc o, h.2.1.alloc o, h.2.2.1.alloc o, h.2.2.2⟩
theorem ExpAt.drewN {w wx : World} {kb : Nat} {T : TypeId} {raw : Value} {y key : List UInt8} {k r : Nat} {A : Option Addr} {c : Nat} (h : ExpAt w wx kb T raw y key k r A c) (n : Nat) : ExpAt w (wx.drewN n) kb T raw y key k r A c :=
  ⟨h.1.drewN n, h.2.1.drewN n, h.2.2.1.drewN n, h.2.2.2⟩
theorem ExpAt.far {w wx : World} {kb : Nat} {T : TypeId} {raw : Value} {y key : List UInt8} {k r : Nat} {A : Option Addr} {c : Nat} (h : ExpAt w wx kb T raw y key k r A c) {p : Addr} (hp : w.heap.size ≤ p.block) (hA : ∀ ad, A = some ad → ad.block ≠ p.block) (u : Value) : ExpAt w (wx.setCell p u) kb T raw y key k r A c :=
  ⟨h.1.far hA u, h.2.1.far (by have := h.2.2.2; omega) u, h.2.2.1.set (p := p) (.inr hp) u, h.2.2.2⟩
/-- Ahead of word k. -/
def ExpRel (w : World) (kb : Nat) (T : TypeId) (raw : Value) (y key : List UInt8) (g : Nat) (s3 s4 s5 : Value) (wr : World) : Prop :=
  ∃ (k : Nat) (A : Option Addr) (c : Nat), k ≤ 3 * (key.length / 4) + 28 ∧ g = 3 * (key.length / 4) + 28 - k ∧ s3 = .slice A (4 * (key.length / 4 + k)) c ∧ s4 = .int .u8 ((rcG ((k + key.length / 4 - 1) / (key.length / 4))).toNat : Int) ∧ s5 = .int .i64 (key.length / 4 + k : Nat) ∧ ExpAt w wr kb T raw y key k 0 A c
/-- Behind the word's map. -/
def WordRel (w : World) (kb tb : Nat) (T : TypeId) (raw : Value) (y key : List UInt8) (k : Nat) (A : Option Addr) (c : Nat) (s4 : Value) (wx : World) : Prop :=
  s4 = .int .u8 ((rcG ((k + 1 + key.length / 4 - 1) / (key.length / 4))).toNat : Int) ∧ ExpAt w wx kb T raw y key k 0 A c ∧ Bk wx tb 263 (tword (key.length / 4) (key.length / 4 + k) (topW key k)) ∧ (∀ ad, A = some ad → ad.block ≠ tb) ∧ w.heap.size ≤ tb
/-- Behind r bytes mapped. -/
def MapRel (w : World) (kb tb : Nat) (T : TypeId) (raw : Value) (y key : List UInt8) (k : Nat) (A : Option Addr) (c : Nat) (i : Value) (gg : Nat) (wx : World) : Prop :=
  ∃ r : Nat, r ≤ 4 ∧ gg = 4 - r ∧ i = .int .i64 r ∧ ExpAt w wx kb T raw y key k 0 A c ∧ Bk wx tb 263 (setsTo (fun j => sb ((topW key k).getD j 0)) (topW key k) r)
theorem MapRel.drew {w wx : World} {kb tb : Nat} {T : TypeId} {raw : Value} {y key : List UInt8} {k : Nat} {A : Option Addr} {c : Nat} {i : Value} {gg : Nat} (h : MapRel w kb tb T raw y key k A c i gg wx) : MapRel w kb tb T raw y key k A c i gg wx.drew := by
  obtain ⟨r, h1, h2, h3, h4, h5⟩ := h
  exact ⟨r, h1, h2, h3, h4.drewN 1, h5.drew⟩
/-- Behind r bytes appended. -/
def AppRel (w : World) (kb tb : Nat) (T : TypeId) (raw : Value) (y key : List UInt8) (k : Nat) (s3 i : Value) (gg : Nat) (wx : World) : Prop :=
  ∃ (r : Nat) (A : Option Addr) (c : Nat), r ≤ 4 ∧ gg = 4 - r ∧ s3 = .slice A (4 * (key.length / 4 + k) + r) c ∧ i = .int .i64 r ∧ ExpAt w wx kb T raw y key k r A c ∧ Bk wx tb 263 (tword (key.length / 4) (key.length / 4 + k) (topW key k)) ∧ ∀ ad, A = some ad → ad.block ≠ tb
/-- Where only one block has grown. -/
theorem Grew.then_ {S T : Nat → Prop} {w w1 w2 : World} (h : Grew S w w1) (k : Grew T w1 w2) (hT : ∀ k, k < w.heap.size → T k → S k) : Grew S w w2 :=
  ⟨k.os.trans h.os, k.tape.trans h.tape, k.output.trans h.output, Nat.le_trans h.size k.size, fun j hj hs => (k.block j (Nat.lt_of_lt_of_le hj h.size) fun ht => hs (hT j hj ht)).trans (h.block j hj hs)⟩
theorem app_step {w wr w2 : World} {kb tb g3 o3 k r c3 c2 : Nat} {T : TypeId} {raw : Value} {y key : List UInt8} {z : UInt8} {A2 : Option Addr} {o : Obj} (he : ExpAt w wr kb T raw y key k r (some ⟨g3, o3, none⟩) c3) (hbk : Bk wr tb 263 (tword (key.length / 4) (key.length / 4 + k) (topW key k)))
    (hne : g3 ≠ tb) (hr4 : r < 4) (hx : (nxtW key k)[r]? = some z) (htx : tb < wr.heap.size) (hrow2 : Row w2 w.heap.size 1 A2 (4 * (key.length / 4 + k) + r + 1) c2 (bv (kexp key k ++ (nxtW key k).take r) ++ [u8v z]))
    (hgr2 : (wr.alloc o).drew.grownBy w2 (some g3)) (hat2 : A2 = some ⟨g3, o3, none⟩ ∨ ∃ ad, A2 = some ad ∧ (wr.alloc o).drew.heap.size ≤ ad.block) :
    AppRel w kb tb T raw y key k (.slice A2 (4 * (key.length / 4 + k) + r + 1) c2) (.int .i64 ((r : Int) + 1)) (3 - r) w2 := by
  obtain ⟨h1, h2, h3, h4⟩ := he
  have hg3 := h1.at_.1
  have hl : (wr.alloc o).drew.heap.size = wr.heap.size + 1 := by show (wr.alloc o).heap.size = _; simp
  refine ⟨r + 1, A2, c2, by omega, by omega, rfl, by go_num, ⟨?_, ?_, ?_, h4⟩, ?_, ?_⟩
  · have e : (nxtW key k).take (r + 1) = (nxtW key k).take r ++ [z] := by
      rw [List.take_add_one, hx]; rfl
    rw [e, ← List.append_assoc, bv_append]
    exact hrow2
  · exact ((h2.alloc o).drew).grown hgr2 (by intro e; injection e with e; omega)
  · exact ((h3.alloc o).drew).then_ (Grew.of_grown (S := (· = g3)) hgr2 (fun j hj _ => by injection hj with hj; exact hj.symm)) (fun j hj e => by omega)
  · exact ((hbk.alloc o).drew).grown hgr2 (by intro e; injection e with e; exact hne e.symm)
  · intro ad e
    rcases hat2 with rfl | ⟨ad2, h, h5⟩
    · cases e; exact hne
    · rw [e] at h; cases h; omega
theorem exp_next {w wx : World} {kb : Nat} {T : TypeId} {raw : Value} {y key : List UInt8} {k : Nat} {A : Option Addr} {c : Nat} (hk : key.length = 16 ∨ key.length = 32) (h : ExpAt w wx kb T raw y key k 4 A c) : ExpAt w wx kb T raw y key (k + 1) 0 A c := by
  obtain ⟨h1, h2⟩ := h
  refine ⟨?_, h2⟩
  rw [List.take_zero, List.append_nil, kexp_succ, show 4 * (key.length / 4 + (k + 1)) + 0 = 4 * (key.length / 4 + k) + 4 by omega]
  rwa [List.take_of_length_le (by rw [length_nxtW hk]; exact Nat.le_refl _)] at h1
/-- Behind q round keys. -/
def RndRel (w : World) (kb : Nat) (T : TypeId) (raw : Value) (y key : List UInt8) (A : Option Addr) (c : Nat) (s9 : Value) (gg : Nat) (wx : World) : Prop :=
  ∃ (q : Nat) (A2 : Option Addr) (c2 : Nat), q ≤ key.length / 4 + 7 ∧ gg = key.length / 4 + 7 - q ∧ s9 = .int .i64 (16 * q : Nat) ∧ Blk wx kb T (ak raw 0 1 sbL y (.slice A2 q c2)).toArray ∧
    Row wx w.heap.size 16 A2 q c2 (bv ((kexp key (3 * (key.length / 4) + 28)).take (16 * q))) ∧ (∀ ad, A2 = some ad → ∀ ad', A = some ad' → ad.block ≠ ad'.block) ∧
    Row wx w.heap.size 1 A (4 * (key.length / 4 + (3 * (key.length / 4) + 28)) + 0) c (bv (kexp key (3 * (key.length / 4) + 28))) ∧ Grew (· = kb) w wx ∧ kb < w.heap.size
theorem sixteen_of {l : List UInt8} (h : l.length = 16) : ∃ x0 x1 x2 x3 x4 x5 x6 x7 x8 x9 x10 x11 x12 x13 x14 x15, l = [x0, x1, x2, x3, x4, x5, x6, x7, x8, x9, x10, x11, x12, x13, x14, x15] := by
  match l, h with
  | [x0, x1, x2, x3, x4, x5, x6, x7, x8, x9, x10, x11, x12, x13, x14, x15], _ => exact ⟨x0, x1, x2, x3, x4, x5, x6, x7, x8, x9, x10, x11, x12, x13, x14, x15, rfl⟩
theorem block_info3 : (Tryz.prog.info? 227).map (fun i => (i.zero, i.size, i.bytes)) = some (some (.agg #[.int .u8 0, .int .u8 0, .int .u8 0, .int .u8 0, .int .u8 0, .int .u8 0, .int .u8 0, .int .u8 0, .int .u8 0, .int .u8 0, .int .u8 0, .int .u8 0, .int .u8 0, .int .u8 0, .int .u8 0, .int .u8 0]), 16, 16) := by kernel_rfl
theorem block_zero : (Value.agg #[.int .u8 0, .int .u8 0, .int .u8 0, .int .u8 0, .int .u8 0, .int .u8 0, .int .u8 0, .int .u8 0, .int .u8 0, .int .u8 0, .int .u8 0, .int .u8 0, .int .u8 0, .int .u8 0, .int .u8 0, .int .u8 0]).cells.size = 16 := by kernel_rfl
theorem rnd_cell {w wr w4 : World} {kb q c2 : Nat} {A2 : Option Addr} {xs : List Value} {o : Obj} {v : Value} (hk : kb < w.heap.size) (hw : w.heap.size ≤ wr.heap.size) (hr : Row wr w.heap.size 16 A2 q c2 xs) (hg : (wr.alloc o).drew.grownBy w4 (A2.map (·.block))) (h : wr.cell? ⟨kb, 516, none⟩ = some v) : w4.cell? ⟨kb, 516, none⟩ = some v := by
  have h1 : (wr.alloc o).drew.cell? ⟨kb, 516, none⟩ = wr.cell? ⟨kb, 516, none⟩ := World.cell?_alloc_lt wr o ⟨kb, 516, none⟩ (by show kb < _; omega)
  rw [← h, ← h1]
  refine World.cell?_of_block (a := ⟨kb, 516, none⟩) (hg.block kb (by show kb < (wr.alloc o).heap.size; simp; omega) fun e => ?_)
  cases A2 with
  | none => cases e
  | some ad => have := (hr.lt ad rfl).1; have e2 : kb = ad.block := Option.some.inj e; omega
theorem rnd_free {w wr w4 : World} {kb q c2 : Nat} {A2 : Option Addr} {xs : List Value} {o : Obj} (hk : kb < w.heap.size) (hw : w.heap.size ≤ wr.heap.size) (hr : Row wr w.heap.size 16 A2 q c2 xs) (hg : (wr.alloc o).drew.grownBy w4 (A2.map (·.block))) (h : wr.frozen? ⟨kb, 516, none⟩ = false) : w4.frozen? ⟨kb, 516, none⟩ = false := by
  have e1 : w4.heap[kb]? = wr.heap[kb]? := (hg.block kb (by show kb < (wr.alloc o).heap.size; simp; omega) (fun e => by
    cases A2 with
    | none => cases e
    | some ad => have := (hr.lt ad rfl).1; have e2 : kb = ad.block := Option.some.inj e; omega)).trans (Below.heap_alloc wr o kb (by omega))
  rw [← h]
  exact World.frozen?_of_block (a := ⟨kb, 516, none⟩) e1
theorem rnd_step {w wr w4 : World} {kb q c2 c c4 g o : Nat} {T : TypeId} {raw : Value} {y key xl : List UInt8} {A2 A4 : Option Addr} {ob : Obj} (hy : y.length = 256) (hbk : Blk wr kb T (ak raw 0 1 sbL y (.slice A2 q c2)).toArray)
    (hrw : Row wr w.heap.size 16 A2 q c2 (bv ((kexp key (3 * (key.length / 4) + 28)).take (16 * q)))) (hne : ∀ ad, A2 = some ad → ∀ ad', some (⟨g, o, none⟩ : Addr) = some ad' → ad.block ≠ ad'.block) (hrow : Row wr w.heap.size 1 (some ⟨g, o, none⟩) (4 * (key.length / 4 + (3 * (key.length / 4) + 28)) + 0) c (bv (kexp key (3 * (key.length / 4) + 28))))
    (hgw : Grew (· = kb) w wr) (hkw : kb < w.heap.size) (hxs : ((kexp key (3 * (key.length / 4) + 28)).drop (16 * q)).take 16 = xl) (hq : q < key.length / 4 + 7) (hrow4 : Row w4 w.heap.size 16 A4 (q + 1) c4 (bv ((kexp key (3 * (key.length / 4) + 28)).take (16 * q)) ++ bv xl))
    (hgr4 : (wr.alloc ob).drew.grownBy w4 (A2.map (·.block))) (hat4 : A4 = A2 ∨ ∃ ad, A4 = some ad ∧ (wr.alloc ob).drew.heap.size ≤ ad.block) :
    RndRel w kb T raw y key (some ⟨g, o, none⟩) c (.int .i64 (16 * (q + 1) : Nat)) (key.length / 4 + 7 - (q + 1)) (w4.setCell ⟨kb, 516, none⟩ (.slice A4 (q + 1) c4)) := by
  have hl : (wr.alloc ob).drew.heap.size = wr.heap.size + 1 := by show (wr.alloc ob).heap.size = _; simp
  have hgs := hgw.size
  have hg := hrow.at_
  have hA2 : ∀ k, k < w.heap.size → some k ≠ A2.map (·.block) := fun k hk e => by
    cases A2 with
    | none => cases e
    | some ad => have := (hrw.lt ad rfl).1; have e2 : k = ad.block := Option.some.inj e; omega
  refine ⟨q + 1, A4, c4, by omega, rfl, rfl, ?_, ?_, ?_, ?_, ?_, hkw⟩
  · have h1 := (((hbk.alloc ob).drew).grown hgr4 (hA2 _ hkw)).set 516 (.slice A4 (q + 1) c4)
    rwa [ak_setr _ _ _ _ _ _ _ length_sbL hy] at h1
  · have e : (kexp key (3 * (key.length / 4) + 28)).take (16 * (q + 1)) = (kexp key (3 * (key.length / 4) + 28)).take (16 * q) ++ xl := by
      rw [← hxs, show 16 * (q + 1) = 16 * q + 16 by omega, List.take_add]
    rw [e, bv_append]
    exact hrow4.far (p := ⟨kb, 516, none⟩) (fun ad e => by have := (hrow4.lt ad e).1; show ad.block ≠ kb; omega) _
  · intro ad e ad' e'
    cases e'
    rcases hat4 with h | ⟨ad2, h, h5⟩
    · rw [h] at e; exact hne ad e ⟨g, o, none⟩ rfl
    · rw [e] at h; cases h; show ad.block ≠ g; omega
  · have h1 := ((hrow.alloc ob).drew).grown hgr4 (fun ad e => by
      cases e
      intro e2
      cases A2 with
      | none => cases e2
      | some a2 => exact hne a2 rfl ⟨g, o, none⟩ rfl (Option.some.inj e2).symm)
    exact h1.far (p := ⟨kb, 516, none⟩) (fun ad e => by cases e; show g ≠ kb; omega) _
  · have h9 : Grew (· = kb) w w4 := ((hgw.alloc ob).drew).then_ (Grew.of_grown (S := fun k => w.heap.size ≤ k) hgr4 fun k hk _ => by
      cases A2 with
      | none => cases hk
      | some ad => have := (hrw.lt ad rfl).1; have e2 : ad.block = k := Option.some.inj hk; show w.heap.size ≤ k; omega) fun k hk h => by
        have h2 : w.heap.size ≤ k := h
        omega
    exact h9.set (p := ⟨kb, 516, none⟩) (.inl rfl) _
theorem quad_of {l : List UInt8} (h : l.length = 4) : ∃ a b c d, l = [a, b, c, d] := by
  match l, h with
  | [a, b, c, d], _ => exact ⟨a, b, c, d, rfl⟩
theorem word_a {n k : Nat} {a b c d : UInt8} (h48 : n = 4 ∨ n = 8) (h : (n + k) % n = 0) :
    tword n (n + k) [a, b, c, d] = [sb b ^^^ rcG ((k + n - 1) / n), sb c, sb d, sb a] ∧ (k + 1 + n - 1) / n = (k + n - 1) / n + 1 := by
  refine ⟨?_, by rcases h48 with rfl | rfl <;> omega⟩
  unfold tword
  rw [if_pos h, show (n + k) / n - 1 = (k + n - 1) / n by rcases h48 with rfl | rfl <;> omega]
  rfl
theorem word_b {n k : Nat} {l : List UInt8} (h8 : n = 8) (h : (n + k) % n = 4) : tword n (n + k) l = l.map sb ∧ (k + 1 + n - 1) / n = (k + n - 1) / n := by
  subst h8
  refine ⟨?_, by omega⟩
  unfold tword
  rw [if_neg (by omega), if_pos ⟨rfl, h⟩]
theorem word_c {n k : Nat} {l : List UInt8} (h48 : n = 4 ∨ n = 8) (h : ¬ (n + k) % n = 0) (h2 : ¬ (n = 8 ∧ (n + k) % n = 4)) : tword n (n + k) l = l ∧ (k + 1 + n - 1) / n = (k + n - 1) / n := by
  refine ⟨?_, by rcases h48 with rfl | rfl <;> omega⟩
  unfold tword
  rw [if_neg h, if_neg h2]
set_option maxRecDepth 100000 in
set_option maxHeartbeats 8000000 in
theorem expand_any (kb : Nat) (T : TypeId) (kA : Option Addr) (kc : Nat) (y key : List UInt8) (w : World) (hb : Blk w kb T (ak (.slice kA key.length kc) 0 1 sbL y (.slice none 0 0)).toArray) (hy : y.length = 256) (hk : key.length = 16 ∨ key.length = 32) (hr : Row w 0 1 kA key.length kc (bv key)) :
    Calls Tryz.prog 209 #[.pointer (some ⟨kb, 0, none⟩)] w fun e w' => e = .returned (.tuple #[]) ∧ ∃ A c, Row w' w.heap.size 16 A (key.length / 4 + 7) c (bv (kexp key (3 * (key.length / 4) + 28))) ∧ Blk w' kb T (ak (.slice kA key.length kc) 0 1 sbL y (.slice A (key.length / 4 + 7) c)).toArray ∧ Grew (· = kb) w w' := by
  have c0 : w.cell? ⟨kb, 0, none⟩ = some (.slice kA key.length kc) := hb.cell 0
  have HB := Lib.hid hb
  have hkl := hb.lt
  have HR := Lib.hid hr
  have HK := Lib.hid hk
  obtain ⟨n, hn⟩ : ∃ n, n = key.length / 4 := ⟨_, rfl⟩
  have hn48 : n = 4 ∨ n = 8 := by omega
  have HN48 := Lib.hid hn48
  have hq : ((key.length : Nat) : Int).tdiv 4 = (n : Int) := by rw [Int.tdiv_eq_ediv_of_nonneg (by omega)]; omega
  have hq2 : ((key.length : Nat) : Int) / 4 = (n : Int) := by omega
  have HCL := Lib.hid (fun w1 h => bClone_any kA key.length kc w1.heap.size key w1 h (Nat.le_refl _) (by omega))
  have hn4 : 4 ≤ n := by omega
  have hn8 : n ≤ 8 := by omega
  have HN := Lib.hid hn
  clear hb hr hk hn48 hn
  go_enter Tryz.func209, Tryz.ntmps209
  go_wp2_with fail
  refine (HCL.out _ (HR.out.reads)).mono ?_
  rintro e w1 ⟨A0, ca, rfl, hrow0, hb1⟩
  have HST : Hid (ExpRel w kb T (.slice kA key.length kc) y key (3 * n + 28) (.slice A0 key.length ca) (.int .u8 1) (.int .i64 n) w1) := Lib.hid
    ⟨0, A0, ca, by omega, by rw [HN.out]; rfl, by congr 1; have := HK.out; omega, by
      rw [Nat.div_eq_of_lt (by have := HN.out; omega)]; rfl, by rw [HN.out]; rfl, by
      have := HK.out
      rw [show 4 * (key.length / 4 + 0) + 0 = key.length by omega, List.take_zero, List.append_nil]; exact hrow0, HB.out.below hb1 hkl, Grew.of_new hb1, hkl⟩
  clear hrow0 hb1 HCL hq hq2
  go_wp2_with fail
  go_loopg [3, 4, 5] (3 * n + 28) (fun g s3 s4 s5 wr => ExpRel w kb T (.slice kA key.length kc) y key g s3 s4 s5 wr)
  case atStart => exact HST.out
  case round =>
    clear HST
    obtain ⟨k, A, c, hk, hgk, rfl, rfl, rfl, hex⟩ := hrel
    obtain ⟨og, hog⟩ : ∃ og, og = gk := ⟨_, rfl⟩
    have HOG := Lib.hid hog
    have HGK := Lib.hid hgk
    clear hog hgk
    have hrow := hex.1
    have hcap := hrow.2.1
    have hcm := hrow.2.2.1
    unfold maxLen at hcm
    obtain ⟨i, hi⟩ : ∃ i, i = n + k := ⟨_, rfl⟩
    rw [← HN.out] at hcap hrow hk ⊢
    rw [← hi] at hcap hrow ⊢
    have HI := Lib.hid hi
    have hi4 : 4 ≤ i := by omega
    have HEX := Lib.hid hex
    by_cases hlt : i < 4 * (n + 7)
    · obtain ⟨g, o, hA⟩ : ∃ g o, A = some ⟨g, o, none⟩ := by
        cases A with
        | none => have := hrow.2.2.2.1 rfl; omega
        | some ad => obtain ⟨g, o, rfl, _⟩ := hrow.2.2.2.2 _ rfl; exact ⟨g, o, rfl⟩
      subst hA
      obtain ⟨m, hm⟩ : ∃ m, m = 4 * i - 4 := ⟨_, rfl⟩
      have htl := length_topW HK.out k
      have HCT : Hid (∀ j u, (bv (topW key k)).toArray[j]? = some u → wr.cell? ⟨g, o + m + j, none⟩ = some u) := Lib.hid fun j u hj => by
        have hj4 : j < 4 := by
          by_cases h : j < 4
          · exact h
          · rw [Array.getElem?_eq_none (by rw [bvA_size, htl]; omega)] at hj; cases hj
        have h2 : (bv (topW key k))[j]? = some u := by simpa using hj
        rw [Nat.add_assoc]
        refine hrow.cell (j := m + j) ?_
        rw [List.take_zero, List.append_nil]
        unfold topW at h2
        rw [bv_take, List.getElem?_take, if_pos hj4, bv_drop, List.getElem?_drop, ← HN.out, ← hi, ← hm] at h2
        exact h2
      have HI4 := Lib.hid (quad_info (l := topW key k) htl)
      have H1 := Lib.hid (bvA_one (topW key k))
      have HS := Lib.hid (show (4 : Nat) = (bv (topW key k)).toArray.size by rw [bvA_size, htl])
      obtain ⟨ka, hka⟩ : ∃ ka, ka = (bv (topW key k)).toArray := ⟨_, rfl⟩
      have HKA := Lib.hid hka
      rw [← hka] at HCT HI4 H1 HS
      have e1 : (4 : Int) * (i : Int) - 4 = (m : Int) := by omega
      have e2 : 4 * i - m = 4 := by omega
      have e3 : ¬ c = m := by omega
      have e4 : (0 : Int) ≤ (m : Int) := by omega
      have e5 : (m : Int) ≤ 4 * (i : Int) := by omega
      have e6 : 4 * (i : Int) ≤ (c : Int) := by omega
      have e7 : (i : Int) < 4 * ((n : Int) + 7) := by omega
      have hgl := hrow.at_
      have HGL := Lib.hid hgl
      have hat : ∀ c w, (Instr.arrayAt 263 (.slice (some ⟨g, o + m, none⟩) 4 c)).run Tryz.prog w = .ok (.pointer (some ⟨g, o + m, none⟩)) w := fun c w => run_arrayAt w _ _ 4 _ 4 c Tryz.underlying263 (Nat.le_refl _)
      clear hrow hex hgl hka hi hm htl
      go_upto_block 2 with (first
        | (refine wpList_load_cells rfl 263 (.tmp 36) rfl g (o + m) rfl ka _ HCT.out Tryz.underlying263 rfl HI4.out ?_)
        | (refine wpList_store_new rfl 263 (.tmp 6) (.tmp 37) rfl _ _ ka rfl rfl HI4.out HS.out H1.out ?_))
      have hb0 : Bk (wr.alloc (.cells ka 263)) wr.heap.size 263 (topW key k) := by rw [HKA.out]; exact Blk.new _ _ _
      have HB0 := Lib.hid hb0
      clear hb0 HCT HI4 H1 HS hat e1 e2 e3 e4 e5 e6
      have HE0 := Lib.hid (HEX.out.alloc (.cells ka 263))
      have hgt : g ≠ wr.heap.size := by have := HGL.out.2.1; omega
      have htw : w.heap.size ≤ wr.heap.size := HEX.out.2.2.1.size
      dsimp only [Act.put]
      obtain ⟨tb, htb⟩ : ∃ tb, tb = wr.heap.size := ⟨_, rfl⟩
      rw [← htb] at HB0 hgt htw ⊢
      generalize wr.alloc (Obj.cells ka 263) = wt at HB0 HE0 ⊢
      clear htb HEX HGL
      obtain ⟨a0, a1, a2, a3, htop⟩ := quad_of (length_topW HK.out k)
      have HTOP := Lib.hid htop
      clear htop
      go_cut [4] (fun s4 wx => WordRel w kb tb T (.slice kA key.length kc) y key k (some ⟨g, o, none⟩) c s4 wx)
      case first =>
        by_cases hm0 : i % n = 0
        · have hb0 := HB0.out
          rw [HTOP.out] at hb0
          have n0 : wt.cell? ⟨tb, 0, none⟩ = some (.int .u8 (a0.toNat : Int)) := Bk.at_ hb0 0 (show 0 < 4 by decide)
          have n1 : wt.cell? ⟨tb, 1, none⟩ = some (.int .u8 (a1.toNat : Int)) := Bk.at_ hb0 1 (show 1 < 4 by decide)
          have n2 : wt.cell? ⟨tb, 2, none⟩ = some (.int .u8 (a2.toNat : Int)) := Bk.at_ hb0 2 (show 2 < 4 by decide)
          have n3 : wt.cell? ⟨tb, 3, none⟩ = some (.int .u8 (a3.toNat : Int)) := Bk.at_ hb0 3 (show 3 < 4 by decide)
          have f0 := Blk.frozen hb0 0
          have f1 := Blk.frozen hb0 1
          have f2 := Blk.frozen hb0 2
          have f3 := Blk.frozen hb0 3
          have hbx := box_of HE0.out.2.1
          have b0 := hbx a0.toNat a0.toNat_lt
          have b1 := hbx a1.toNat a1.toNat_lt
          have b2 := hbx a2.toNat a2.toNat_lt
          have b3 := hbx a3.toNat a3.toNat_lt
          rw [UInt8.ofNat_toNat] at b0 b1 b2 b3
          have l0 := a0.toNat_lt
          have l1 := a1.toNat_lt
          have l2 := a2.toNat_lt
          have l3 := a3.toNat_lt
          have hw := word_a (k := k) (a := a0) (b := a1) (c := a2) (d := a3) HN48.out (by rw [← HI.out]; exact hm0)
          have e1 := bx_xor (sb a1) (rcG ((k + n - 1) / n))
          have hmi : (i : Int) % (n : Int) = 0 := by omega
          have hfin : WordRel w kb tb T (.slice kA key.length kc) y key k (some ⟨g, o, none⟩) c (.int .u8 ((mulG (rcG ((k + n - 1) / n)) 2).toNat : Int)) ((((wt.drew.setCell ⟨tb, 0, none⟩ (u8v (sb a1 ^^^ rcG ((k + n - 1) / n)))).setCell ⟨tb, 1, none⟩ (u8v (sb a2))).setCell ⟨tb, 2, none⟩ (u8v (sb a3))).setCell ⟨tb, 3, none⟩ (u8v (sb a0))) := by
            refine ⟨?_, ((((HE0.out.drewN 1).far (p := ⟨tb, 0, none⟩) htw (fun ad e => by cases e; exact hgt) _).far (p := ⟨tb, 1, none⟩) htw (fun ad e => by cases e; exact hgt) _).far (p := ⟨tb, 2, none⟩) htw (fun ad e => by cases e; exact hgt) _).far (p := ⟨tb, 3, none⟩) htw (fun ad e => by cases e; exact hgt) _, ?_, fun ad e => by cases e; exact hgt, htw⟩
            · rw [← HN.out, hw.2]; rfl
            · rw [← HN.out, HTOP.out, hw.1]
              exact Bk.set_ (Bk.set_ (Bk.set_ (Bk.set_ hb0.drew 0 _) 1 _) 2 _) 3 _
          have HFIN := Lib.hid hfin
          have HML := Lib.hid (fun w => fMul_any (rcG ((k + n - 1) / n)) 2 w)
          rw [show (((2 : UInt8).toNat : Nat) : Int) = 2 from rfl] at HML
          have cw : ∀ d o u a, ({ heap := wt.heap, tape := wt.tape, drawn := d, os := o, output := u } : World).cell? a = wt.cell? a := fun _ _ _ _ => rfl
          clear hb0 hbx hw hfin
          unfold u8v at b0 b1 b2 b3 HFIN
          generalize ((sb a0).toNat : Int) = S0 at b0 HFIN
          generalize ((sb a2).toNat : Int) = S2 at b2 HFIN
          generalize ((sb a3).toNat : Int) = S3 at b3 HFIN
          generalize ((sb a1 ^^^ rcG ((k + n - 1) / n)).toNat : Int) = S4 at e1 HFIN
          generalize ((sb a1).toNat : Int) = S1 at b1 e1
          generalize a0.toNat = A0' at n0 b0 l0
          generalize a1.toNat = A1' at n1 b1 l1
          generalize a2.toNat = A2' at n2 b2 l2
          generalize a3.toNat = A3' at n3 b3 l3
          have m0 : (A0' : Int) < 256 := by omega
          have m1 : (A1' : Int) < 256 := by omega
          have m2 : (A2' : Int) < 256 := by omega
          have m3 : (A3' : Int) < 256 := by omega
          go_wp2_with fail
          go_still_tail 31, (by kernel_rfl)
          clear cw
          change wpList _ _ _ _ _ wt.drew
          trace_state
          go_wp2_with fail
          refine (HML.out _).mono ?_
          rintro e w5 ⟨rfl, rfl⟩
          go_wp2_with fail
          go_meet
          exact HFIN.out
        · by_cases hm4 : n = 8 ∧ i % n = 4
          · obtain ⟨h8, hm4⟩ := hm4
            have hw := word_b (k := k) (l := topW key k) h8 (by rw [← HI.out]; exact hm4)
            have HW := Lib.hid hw
            clear hw
            subst h8
            have hmi : (i : Int) % 8 = 4 := by omega
            have HTL := Lib.hid (length_topW HK.out k)
            have HMP := Lib.hid (show (List.range 4).map (fun j => sb ((topW key k).getD j 0)) = (topW key k).map sb by rw [HTOP.out]; rfl)
            have hst : MapRel w kb tb T (.slice kA key.length kc) y key k (some ⟨g, o, none⟩) c (.int .i64 0) 4 wt := ⟨0, by omega, rfl, rfl, HE0.out, HB0.out⟩
            have HST := Lib.hid hst
            clear hst
            go_wp2_with fail
            go_loopg [7, 85] 4 (fun gg _ s wx => MapRel w kb tb T (.slice kA key.length kc) y key k (some ⟨g, o, none⟩) c s gg wx)
            case atStart => exact HST.out
            case round =>
              clear HST
              obtain ⟨r, hr, hgr, rfl, he, hbk⟩ := hrel
              have HGR := Lib.hid hgr
              clear hgr
              by_cases hr4 : r < 4
              · have c1 := Bk.at_ hbk r (by rw [length_setsTo, HTL.out]; exact hr4)
                rw [getD_setsTo_at] at c1
                have f1 := Blk.frozen hbk r
                have hl := ((topW key k).getD r 0).toNat_lt
                have b1 := box_of he.2.1 _ hl
                rw [UInt8.ofNat_toNat] at b1
                have hne : MapRel w kb tb T (.slice kA key.length kc) y key k (some ⟨g, o, none⟩) c (.int .i64 ((r : Int) + 1)) (3 - r) (wr.setCell ⟨tb, r, none⟩ (u8v (sb ((topW key k).getD r 0)))) :=
                  ⟨r + 1, by omega, by omega, by go_num, he.far (p := ⟨tb, r, none⟩) htw (fun ad e => by cases e; exact hgt) _, Bk.set_ hbk r _⟩
                have HNE := Lib.hid hne
                clear hne he hbk
                unfold u8v at c1 b1 HNE
                generalize ((sb ((topW key k).getD r 0)).toNat : Int) = Z at b1 HNE
                generalize ((topW key k).getD r 0).toNat = X at c1 b1 hl
                have hl2 : (X : Int) < 256 := by omega
                go_wp2_with fail
                go_region
                go_wp2_with fail
                go_roundg (3 - r)
                case measure => have := HGR.out; omega
                case rel => exact HNE.out.drew
              · obtain rfl : r = 4 := by omega
                rw [setsTo_all _ _ HTL.out, HMP.out] at hbk
                have HBK := Lib.hid hbk
                have HE := Lib.hid he
                clear hbk he
                go_wp2_with fail
                go_meet
                exact ⟨by rw [← HN.out, HW.out.2]; rfl, HE.out, by rw [← HN.out, HW.out.1]; exact HBK.out, fun ad e => by cases e; exact hgt, htw⟩
          · have hw := word_c (k := k) (l := topW key k) HN48.out (by rw [← HI.out]; exact hm0) (by rw [← HI.out]; exact hm4)
            have HW := Lib.hid hw
            clear hw
            have hmi : ¬ (i : Int) % (n : Int) = 0 := by omega
            have hfin : WordRel w kb tb T (.slice kA key.length kc) y key k (some ⟨g, o, none⟩) c (.int .u8 ((rcG ((k + n - 1) / n)).toNat : Int)) wt :=
              ⟨by rw [← HN.out, HW.out.2], HE0.out, by rw [← HN.out, HW.out.1]; exact HB0.out, fun ad e => by cases e; exact hgt, htw⟩
            have HFIN := Lib.hid hfin
            clear hfin
            by_cases h8 : n = 8
            · subst h8
              have hm5 : ¬ (i : Int) % 8 = 4 := by omega
              have hm6 : ¬ (i : Int) % 8 = 0 := by omega
              clear hm4 hmi
              go_wp2_with fail
              go_meet
              exact HFIN.out
            · have hn8' : ¬ (n : Int) = 8 := by omega
              clear hm4
              go_wp2_with fail
              go_meet
              exact HFIN.out
      case rest =>
        obtain ⟨hs4, he, hbk, hne, htw2⟩ := hcut
        have HS4 := Lib.hid hs4
        clear hs4
        have HW := Lib.hid (length_tword n (n + k) (length_topW HK.out k))
        have hst : AppRel w kb tb T (.slice kA key.length kc) y key k (.slice (some ⟨g, o, none⟩) (4 * i) c) (.int .i64 0) 4 wc := ⟨0, _, c, by omega, rfl, by rw [HI.out, HN.out]; rfl, rfl, he, hbk, hne⟩
        have HST := Lib.hid hst
        clear hst he hbk hne HE0 HB0
        obtain ⟨i0, hi0, hz0, hz1, hz2⟩ := info_parts byte_info
        go_wp2_with fail
        go_loopg [3, 8, 99] 4 (fun gg s3 _ s99 wx => AppRel w kb tb T (.slice kA key.length kc) y key k s3 s99 gg wx)
        case atStart => exact HST.out
        case round =>
          clear HST
          obtain ⟨r, A3, c3, hr, hgr, rfl, rfl, he, hbk, hne⟩ := hrel
          have HGR := Lib.hid hgr
          clear hgr
          have hrow := he.1
          obtain ⟨M, hM⟩ : ∃ M, 4 * (key.length / 4 + k) + r = M := ⟨_, rfl⟩
          rw [hM] at hrow ⊢
          have hMi : M = 4 * i + r := by have := HI.out; have := HN.out; omega
          have HM := Lib.hid hM
          have hcap := hrow.2.1
          have hcm2 := hrow.2.2.1
          unfold maxLen at hcm2
          clear hM
          by_cases hr4 : r < 4
          · obtain ⟨g3, o3, hA3⟩ : ∃ g o, A3 = some ⟨g, o, none⟩ := by
              cases A3 with
              | none => have := hrow.2.2.2.1 rfl; omega
              | some ad => obtain ⟨g, o, rfl, _⟩ := hrow.2.2.2.2 _ rfl; exact ⟨g, o, rfl⟩
            subst hA3
            have hol := length_oldW HK.out k
            have hwl := HW.out
            have hnl := length_nxtW HK.out k
            have hkl3 := length_kexp key HK.out k
            have hni := HI.out
            have hnk := HN.out
            have c1 := Bk.at_ hbk r (by rw [← HN.out, HW.out]; exact hr4)
            rw [← HN.out] at c1
            have c2 : wr.cell? ⟨g3, o3 + (4 * k + r), none⟩ = some (u8v ((oldW key k).getD r 0)) := by
              refine hrow.cell (j := 4 * k + r) ?_
              rw [bv_append, List.getElem?_append_left (by rw [length_bv, hkl3]; omega), bv_at _ _ (by rw [hkl3]; omega)]
              unfold oldW
              rw [List.getD_eq_getElem?_getD, List.getElem?_take, if_pos hr4, List.getElem?_drop, List.getElem?_eq_getElem (by rw [hkl3]; omega)]
              rfl
            have hnx : nxtW key k = (nxtW key k) := rfl
            have hx : (nxtW key k)[r]? = some ((tword n (n + k) (topW key k)).getD r 0 ^^^ (oldW key k).getD r 0) := by
              unfold nxtW
              rw [← HN.out, getD_xorL _ _ r (by omega) (by omega)]
              simp [show r < (tword n (n + k) (topW key k)).length by omega, show r < (oldW key k).length by omega]
            have HX := Lib.hid hx
            have e1 := bx_xor ((tword n (n + k) (topW key k)).getD r 0) ((oldW key k).getD r 0)
            obtain ⟨z, hz⟩ : ∃ z, z = (tword n (n + k) (topW key k)).getD r 0 ^^^ (oldW key k).getD r 0 := ⟨_, rfl⟩
            rw [← hz] at e1 HX
            have hgx := hrow.at_.2.1
            have htx := hbk.lt
            have hg3t : g3 ≠ tb := hne _ rfl
            have HE := Lib.hid he
            have HBK := Lib.hid hbk
            have HROW := Lib.hid hrow
            have hbw : w.heap.size ≤ wr.heap.size := he.2.2.1.size
            clear hnx hx hz he hbk hne hrow hol hwl hnl hkl3 hni hnk
            unfold u8v at c1 c2
            generalize (((tword n (n + k) (topW key k)).getD r 0).toNat : Int) = X1 at c1 e1
            generalize (((oldW key k).getD r 0).toNat : Int) = X2 at c2 e1
            have q1 : (i : Int) - (n : Int) = (k : Int) := by have := HI.out; omega
            have q2 : IntKind.i64.wrap (k : Int) = (k : Int) := IntWalk.i64_in _ (by omega)
            have q3 : IntKind.i64.wrap (4 * (k : Int)) = 4 * (k : Int) := IntWalk.i64_in _ (by omega)
            have q4 : IntKind.i64.wrap (4 * (k : Int) + (r : Int)) = 4 * (k : Int) + (r : Int) := IntWalk.i64_in _ (by omega)
            have q5 : (0 : Int) ≤ 4 * (k : Int) + (r : Int) := by omega
            have q6 : 4 * (k : Int) + (r : Int) < (M : Int) := by omega
            have q7 : (4 * (k : Int) + (r : Int)).toNat = 4 * k + r := by omega
            have q8 : (r : Int) < 4 := by omega
            have hM0 : M ≤ 300 := by omega
            have HMI := Lib.hid hMi
            clear hMi
            go_wp2_with fail
            go_region_law (refine step_append_row (by rfl) (.tmp 102) (.tmp 116) (by rfl) Tryz.underlying27 hi0 hz0 hz1 hz2 (by rfl) (by decide) (by rfl) (HROW.out.alloc _).drew (by rfl) (Reads.lit _ _ _ (n := 1) rfl).drew (by intro v hv; simp at hv; rcases hv with rfl; rfl) (by unfold maxLen; omega) (by omega) (by simp; omega) ?_; intro A2 c2 w2 hrow2 hgr2 hat2)
            all_goals
              have HFIN := Lib.hid (app_step HE.out HBK.out hg3t hr4 HX.out htx (by rw [HM.out]; exact hrow2) hgr2 hat2)
              clear hrow2 hgr2 hat2
              go_wp2_with fail
              go_roundg (3 - r)
              case measure => have := HGR.out; omega
              case rel => have h := HFIN.out; rw [HM.out] at h; exact h
          · obtain rfl : r = 4 := by omega
            have HE := Lib.hid he
            have hkk : k < 3 * n + 28 := by have := HI.out; omega
            have hlen := length_kexp key HK.out k
            have hnk := HN.out
            have hfin : ExpRel w kb T (.slice kA key.length kc) y key (og - 1) (.slice A3 M c3) _ (.int .i64 ((i : Int) + 1)) wr :=
              ⟨k + 1, A3, c3, by omega, by have := HOG.out; have := HGK.out; omega, by congr 1; have := HM.out; omega, HS4.out, by congr 1; have := HI.out; omega, exp_next HK.out he⟩
            have HFIN := Lib.hid hfin
            clear he hbk hne hrow hlen hnk hfin HE
            go_wp2_with fail
            go_roundg (og - 1)
            case measure => have := HOG.out; have := HGK.out; have := HN.out; omega
            case rel => exact HFIN.out
    · have hke : k = 3 * n + 28 := by omega
      have hie : i = 4 * (n + 7) := by omega
      have hst : RndRel w kb T (.slice kA key.length kc) y key A c (.int .i64 0) (n + 7) wr := ⟨0, none, 0, by omega, by rw [HN.out]; omega, rfl, hex.2.1, Row.nil_ _ _ _, (fun ad e => by cases e), by
        have h := hex.1
        rw [List.take_zero, List.append_nil, ← HN.out, hke] at h
        rw [← HN.out]
        exact h, hex.2.2.1, hex.2.2.2⟩
      have HST := Lib.hid hst
      have e7 : ¬ (i : Int) < 4 * ((n : Int) + 7) := by omega
      obtain ⟨M, hM⟩ : ∃ M, 4 * i = M := ⟨_, rfl⟩
      have hM16 : M = 16 * (n + 7) := by omega
      rw [hM]
      have HM16 := Lib.hid hM16
      clear hst hex hrow hi hke hie hM hM16 hcap
      go_wp2_with fail
      go_loopg [9] (n + 7) (fun gg s9 wx => RndRel w kb T (.slice kA key.length kc) y key A c s9 gg wx)
      case atStart => exact HST.out
      case round =>
        clear HST
        obtain ⟨q, A2, c2, hq, hgr, rfl, hbk, hrw, hne, hrow, hgw, hkw⟩ := hrel
        have HGR := Lib.hid hgr
        clear hgr
        have hnk := HN.out
        obtain ⟨m, hm⟩ : ∃ m, 16 * q = m := ⟨_, rfl⟩
        rw [hm]
        have hkx := length_kexp key HK.out (3 * (key.length / 4) + 28)
        have hM16 := HM16.out
        have hk32 := HK.out
        by_cases hlq : q < n + 7
        · obtain ⟨g, o, hA⟩ : ∃ g o, A = some ⟨g, o, none⟩ := by
            cases A with
            | none => have := hrow.2.2.2.1 rfl; have := hrow.2.1; omega
            | some ad => obtain ⟨g, o, rfl, _⟩ := hrow.2.2.2.2 _ rfl; exact ⟨g, o, rfl⟩
          subst hA
          have hc1 := hrow.2.1
          have hc2 := hrow.2.2.1
          have hq2 := hrw.2.2.1
          unfold maxLen at hc2
          have hbl : (((kexp key (3 * (key.length / 4) + 28)).drop (16 * q)).take 16).length = 16 := by rw [List.length_take, List.length_drop, hkx]; omega
          obtain ⟨x0, x1, x2, x3, x4, x5, x6, x7, x8, x9, x10, x11, x12, x13, x14, x15, hxs⟩ := sixteen_of hbl
          have HZ : Hid (∀ j (_ : j < 16) v, (bv [x0, x1, x2, x3, x4, x5, x6, x7, x8, x9, x10, x11, x12, x13, x14, x15])[j]? = some v → wr.cell? ⟨g, o + m + j, none⟩ = some v) := Lib.hid fun j hj v hv => by
            rw [← hxs, bv_take, List.getElem?_take, if_pos hj, bv_drop, List.getElem?_drop, hm] at hv
            rw [Nat.add_assoc]
            exact hrow.cell hv
          have z0 := HZ.out 0 (by decide) _ rfl
          have z1 := HZ.out 1 (by decide) _ rfl
          have z2 := HZ.out 2 (by decide) _ rfl
          have z3 := HZ.out 3 (by decide) _ rfl
          have z4 := HZ.out 4 (by decide) _ rfl
          have z5 := HZ.out 5 (by decide) _ rfl
          have z6 := HZ.out 6 (by decide) _ rfl
          have z7 := HZ.out 7 (by decide) _ rfl
          have z8 := HZ.out 8 (by decide) _ rfl
          have z9 := HZ.out 9 (by decide) _ rfl
          have z10 := HZ.out 10 (by decide) _ rfl
          have z11 := HZ.out 11 (by decide) _ rfl
          have z12 := HZ.out 12 (by decide) _ rfl
          have z13 := HZ.out 13 (by decide) _ rfl
          have z14 := HZ.out 14 (by decide) _ rfl
          have z15 := HZ.out 15 (by decide) _ rfl
          rw [Nat.add_zero] at z0
          have c516 := (hbk.cell 516).trans (ak_rat _ _ _ _ _ _ length_sbL hy)
          have f516 := hbk.frozen 516
          have HXS := Lib.hid hxs
          have HBK := Lib.hid hbk
          have HRW := Lib.hid hrw
          have HNE := Lib.hid hne
          have HROW := Lib.hid hrow
          have HGW := Lib.hid hgw
          have hbw := hgw.size
          have HM := Lib.hid hm
          have hat : ∀ c w, (Instr.arrayAt 227 (.slice (some ⟨g, o + m, none⟩) 16 c)).run Tryz.prog w = .ok (.pointer (some ⟨g, o + m, none⟩)) w := fun c w => run_arrayAt w _ _ 16 _ 16 c Tryz.underlying227 (Nat.le_refl _)
          have k1 : IntKind.i64.wrap ((m : Int) + 16) = (m : Int) + 16 := IntWalk.i64_in _ (by omega)
          have k2 : (m : Int) ≤ (m : Int) + 16 := by omega
          have k3 : (m : Int) + 16 ≤ (c : Int) := by omega
          have k4 : ¬ c = m := by omega
          have k5 : (m : Int) < (M : Int) := by omega
          have k6 : (0 : Int) ≤ (m : Int) := by omega
          have k7 : ((m : Int) + 16).toNat = m + 16 := by omega
          have k8 : (0 : Int) ≤ (m : Int) + 16 := by omega
          have k9 : (m : Int) ≤ (c : Int) := by omega
          have hq3 : q ≤ 15 := by omega
          have hkr : kb < wr.heap.size := by omega
          have hgr2 : g < wr.heap.size := HROW.out.at_.2.1
          obtain ⟨i1, hi1, hz0, hz1, hz2⟩ := info_parts block_info3
          clear hm hbl hxs hbk hrw hne hrow hgw hnk hkx hM16 hk32 hc1 hc2 HZ
          go_wp2_with fail
          go_region_law (refine step_append_row (by rfl) (.tmp 129) (.tmp 137) (by rfl) Tryz.underlying189 hi1 hz0 hz1 hz2 block_zero (by decide) (by rfl) (HRW.out.alloc _).drew (by rfl) (Reads.lit _ _ _ (n := 1) rfl).drew (by intro v hv; simp at hv; rcases hv with rfl | rfl | rfl | rfl | rfl | rfl | rfl | rfl | rfl | rfl | rfl | rfl | rfl | rfl | rfl | rfl <;> rfl) (by unfold maxLen; omega) (by omega) (by simp; omega) ?_; intro A4 c4 w4 hrow4 hgr4 hat4; have d516 := rnd_cell hkw hbw HRW.out hgr4 c516; have g516 := rnd_free hkw hbw HRW.out hgr4 f516)
          all_goals
            have HFIN := Lib.hid (rnd_step hy HBK.out HRW.out HNE.out HROW.out HGW.out hkw HXS.out (by have := HN.out; omega) hrow4 hgr4 hat4)
            clear hrow4 hgr4 hat4 d516 g516
            go_wp2_with fail
            go_roundg (gk - 1)
            case measure => have := HGR.out; have := HN.out; omega
            case rel =>
              have h := HFIN.out
              rw [show key.length / 4 + 7 - (q + 1) = gk - 1 by have := HGR.out; omega, show 16 * (q + 1) = m + 16 by have := HM.out; omega] at h
              exact h
        · obtain rfl : q = n + 7 := by omega
          rw [List.take_of_length_le (by rw [hkx]; omega)] at hrw
          rw [hnk] at hrw hbk
          have HRW := Lib.hid hrw
          have HBK := Lib.hid hbk
          have HGW := Lib.hid hgw
          have k5 : ¬ (m : Int) < (M : Int) := by omega
          clear hrw hbk hgw hrow hne hm hM16 hkx hnk
          go_wp2_with fail
          go_end0
          exact ⟨rfl, A2, c2, HRW.out, HBK.out, HGW.out⟩
end Go.Proofs.YtogpnlfbdhddmaaGreatDoor
namespace Go.Proofs.YtogpnlfbdhddmaaGreatDoor
open Go.RowKit

/-- A key whose maps and round keys are made; what it owns lies in blocks of X. -/
def KeyDone (w : World) (kb : Nat) (X : Nat → Prop) (key : List UInt8) : Prop :=
  ∃ (A : Option Addr) (c : Nat) (y : List UInt8) (A2 : Option Addr) (c2 : Nat), Row w 0 1 A key.length c (bv key) ∧ (∀ ad, A = some ad → X ad.block ∧ ad.block ≠ kb) ∧ y.length = 256 ∧
    Blk w kb 191 (ak (.slice A key.length c) 1 0 sbL y (.slice A2 (key.length / 4 + 7) c2)).toArray ∧ Row w 0 16 A2 (key.length / 4 + 7) c2 (bv (kexp key (3 * (key.length / 4) + 28))) ∧ ∀ ad, A2 = some ad → X ad.block ∧ ad.block ≠ kb
/-- A key whose maps are not made yet. -/
def KeyRaw (w : World) (kb : Nat) (X : Nat → Prop) (key : List UInt8) : Prop :=
  ∃ (A : Option Addr) (c : Nat) (x y : List UInt8), Row w 0 1 A key.length c (bv key) ∧ (∀ ad, A = some ad → X ad.block ∧ ad.block ≠ kb) ∧ x.length = 256 ∧ y.length = 256 ∧
    Blk w kb 191 (ak (.slice A key.length c) 0 0 x y (.slice none 0 0)).toArray
def KeyAt (w : World) (kb : Nat) (X : Nat → Prop) (key : List UInt8) : Prop := KeyRaw w kb X key ∨ KeyDone w kb X key
section
variable {w w' : World} {kb : Nat} {X X' : Nat → Prop} {key : List UInt8}
theorem KeyDone.lt (h : KeyDone w kb X key) : kb < w.heap.size := by obtain ⟨_, _, _, _, _, _, _, _, hb, _⟩ := h; exact hb.lt
theorem KeyRaw.lt (h : KeyRaw w kb X key) : kb < w.heap.size := by obtain ⟨_, _, _, _, _, _, _, _, hb⟩ := h; exact hb.lt
theorem KeyAt.lt (h : KeyAt w kb X key) : kb < w.heap.size := h.elim KeyRaw.lt KeyDone.lt
theorem KeyDone.grew {S : Nat → Prop} (h : KeyDone w kb X key) (hg : Grew S w w') (h1 : ¬ S kb) (h2 : ∀ k, X k → ¬ S k) : KeyDone w' kb X key := by
  obtain ⟨A, c, y, A2, c2, hr, ha, hy, hb, hr2, ha2⟩ := h
  exact ⟨A, c, y, A2, c2, hr.grew hg (fun ad e => h2 _ (ha ad e).1), ha, hy, hb.grew hg h1, hr2.grew hg (fun ad e => h2 _ (ha2 ad e).1), ha2⟩
theorem KeyRaw.grew {S : Nat → Prop} (h : KeyRaw w kb X key) (hg : Grew S w w') (h1 : ¬ S kb) (h2 : ∀ k, X k → ¬ S k) : KeyRaw w' kb X key := by
  obtain ⟨A, c, x, y, hr, ha, hx, hy, hb⟩ := h
  exact ⟨A, c, x, y, hr.grew hg (fun ad e => h2 _ (ha ad e).1), ha, hx, hy, hb.grew hg h1⟩
theorem KeyAt.grew {S : Nat → Prop} (h : KeyAt w kb X key) (hg : Grew S w w') (h1 : ¬ S kb) (h2 : ∀ k, X k → ¬ S k) : KeyAt w' kb X key := h.imp (·.grew hg h1 h2) (·.grew hg h1 h2)
theorem KeyDone.mono (h : KeyDone w kb X key) (hx : ∀ k, k < w.heap.size → X k → X' k) : KeyDone w kb X' key := by
  obtain ⟨A, c, y, A2, c2, hr, ha, hy, hb, hr2, ha2⟩ := h
  exact ⟨A, c, y, A2, c2, hr, fun ad e => ⟨hx _ (hr.lt ad e).2 (ha ad e).1, (ha ad e).2⟩, hy, hb, hr2, fun ad e => ⟨hx _ (hr2.lt ad e).2 (ha2 ad e).1, (ha2 ad e).2⟩⟩
theorem KeyRaw.mono (h : KeyRaw w kb X key) (hx : ∀ k, k < w.heap.size → X k → X' k) : KeyRaw w kb X' key := by
  obtain ⟨A, c, x, y, hr, ha, hx2, hy, hb⟩ := h
  exact ⟨A, c, x, y, hr, fun ad e => ⟨hx _ (hr.lt ad e).2 (ha ad e).1, (ha ad e).2⟩, hx2, hy, hb⟩
theorem KeyAt.mono (h : KeyAt w kb X key) (hx : ∀ k, k < w.heap.size → X k → X' k) : KeyAt w kb X' key := h.imp (·.mono hx) (·.mono hx)
theorem KeyAt.within (h : KeyAt w kb X key) : KeyAt w kb (fun k => X k ∧ k < w.heap.size) key := h.mono fun _ hk hx => ⟨hx, hk⟩
theorem KeyAt.below {B : Nat} (h : KeyAt w kb X key) (hb : Below B w w') (hB : w.heap.size ≤ B) : KeyAt w' kb X key :=
  (h.within.grew (Grew.of_below (S := fun k => w.heap.size ≤ k) hb fun k hk hk2 => by omega) (by have := h.lt; omega) (fun k hk => by omega)).mono fun _ _ hx => hx.1
end
/-- What a key owns behind more work. -/
def OwnK (X : Nat → Prop) (w w' : World) (k : Nat) : Prop := (X k ∧ k < w.heap.size) ∨ (w.heap.size ≤ k ∧ k < w'.heap.size)

def zeros' (n : Nat) : List UInt8 := List.replicate n 0
theorem ak_new (x : Value) : Tryz.zeroCells191.setIfInBounds 0 x = (ak x 0 0 (zeros' 256) (zeros' 256) (.slice none 0 0)).toArray := by kernel_rfl
/-- A new key, in new blocks. -/
def NewKey (key : List UInt8) (w : World) (e : Ending) (w' : World) : Prop :=
  ∃ kb, e = .returned (.tuple #[.pointer (some ⟨kb, 0, none⟩), .int .i64 0]) ∧ w.heap.size ≤ kb ∧ KeyAt w' kb (fun k => w.heap.size ≤ k) key ∧ Below w.heap.size w w'
set_option maxRecDepth 100000 in
set_option maxHeartbeats 4000000 in
theorem aNew_key (key : List UInt8) (A : Option Addr) (n c B : Nat) (w : World) (hr : Reads w B 1 A n (bv key)) (hB : B ≤ w.heap.size) (hk : key.length = 16 ∨ key.length = 32) : Calls Tryz.prog 89 #[.slice A n c] w (NewKey key w) := by
  have hn : key.length = n := by have := hr.1; rw [length_bv] at this; omega
  have HC := Lib.hid (bClone_any A n c B key w hr hB (by omega))
  have HN := Lib.hid hn
  have e1 : (((n : Nat) : Int) == 16) = decide (n = 16) := by
    by_cases h : n = 16
    · simp [h]
    · simp [h]; omega
  rcases (show n = 16 ∨ n = 32 by omega) with rfl | rfl
  all_goals
    clear hr hn e1 hk
    go_enter Tryz.func89, Tryz.ntmps89
    go_wp2_with fail
    refine HC.out.mono ?_
    rintro e w1 ⟨A1, c1, rfl, hrow, hb1⟩
    have HROW := Lib.hid hrow
    have HB1 := Lib.hid hb1
    clear hrow hb1 HC
    go_wp2_with fail
    go_ret2
    have hs1 := HB1.out.size
    refine ⟨w1.heap.size, rfl, hs1, .inl ⟨A1, c1, zeros' 256, zeros' 256, (HROW.out.mono (Nat.zero_le _)).alloc _, fun ad e => ?_, by simp [zeros'], by simp [zeros'], by rw [← ak_new]; exact Blk.new w1 191 _⟩, HB1.out.alloc hs1 _⟩
    have := HROW.out.lt ad e
    exact ⟨this.1, by omega⟩
theorem aNew_no (key : List UInt8) (A : Option Addr) (n c : Nat) (w : World) (hn : key.length = n) (hk : ¬ (key.length = 16 ∨ key.length = 32)) : Calls Tryz.prog 89 #[.slice A n c] w fun e w' => e = .returned (.tuple #[.pointer none, .int .i64 1]) ∧ w = w' := by
  have h1 : ¬ (n : Int) = 16 := by omega
  have h2 : ¬ (n : Int) = 32 := by omega
  have h3 : ((n : Int) != 16) = true := by simpa using h1
  have h4 : ((n : Int) != 32) = true := by simpa using h2
  clear hn hk h1 h2
  go_enter Tryz.func89, Tryz.ntmps89
  go_wp2_with fail
  go_ret2
  exact ⟨rfl, rfl⟩

/-! ### the Once -/
theorem ready_enter (args : Array Value) (w : World) : (callFunc 207 args).run Tryz.prog w = .ok (.enter 207 args) w :=
  Go.MuLone.run_callFunc_enter Tryz.func207 (by kernel_rfl) rfl args w
set_option maxRecDepth 100000 in
set_option maxHeartbeats 4000000 in
theorem ready1_any (kb g : Nat) (kA : Option Addr) (kc : Nat) (x y key : List UInt8) (w : World) (hb : Blk w kb 191 (ak (.slice kA key.length kc) 0 1 x y (.slice none 0 0)).toArray) (hx : x.length = 256) (hy : y.length = 256) (hk : key.length = 16 ∨ key.length = 32)
    (hr : Row w 0 1 kA key.length kc (bv key)) (ha : ∀ ad, kA = some ad → ad.block ≠ kb) (hg : w.cell? ⟨g, 0, none⟩ = some (.pointer (some ⟨kb, 0, none⟩))) (hl : g < w.heap.size) (hne : g ≠ kb) :
    Calls Tryz.prog 207 #[.pointer (some ⟨g, 0, none⟩)] w fun e w' => e = .returned (.tuple #[]) ∧ ∃ y' A c, y'.length = 256 ∧ Row w' w.heap.size 16 A (key.length / 4 + 7) c (bv (kexp key (3 * (key.length / 4) + 28))) ∧ Blk w' kb 191 (ak (.slice kA key.length kc) 0 1 sbL y' (.slice A (key.length / 4 + 7) c)).toArray ∧ Grew (· = kb) w w' := by
  have HM := Lib.hid (fun w1 h => maps_any kb 191 (.slice kA key.length kc) (.slice none 0 0) x y w1 h hx hy)
  have HE := Lib.hid (fun y2 w1 h1 h2 h3 => expand_any kb 191 kA kc y2 key w1 h1 h2 hk h3)
  have HB := Lib.hid hb
  have HR := Lib.hid hr
  have HA := Lib.hid ha
  clear hb hr ha hk hx hy
  go_enter Tryz.func207, Tryz.ntmps207
  go_wp2_with fail
  refine (HM.out _ HB.out).mono ?_
  rintro e w1 ⟨rfl, y1, hy1, hb1, hg1⟩
  have hgc : w1.cell? ⟨g, 0, none⟩ = some (.pointer (some ⟨kb, 0, none⟩)) := (hg1.cell (a := ⟨g, 0, none⟩) hl hne).trans hg
  have HE1 := Lib.hid (HE.out y1 w1 hb1 hy1 (HR.out.grew hg1 HA.out))
  have HG1 := Lib.hid hg1
  clear hb1 hg1 hg
  go_wp2_with fail
  refine (HE1.out).mono ?_
  rintro e w2 ⟨rfl, A, c, hrow, hb2, hg2⟩
  have HROW := Lib.hid hrow
  have HB2 := Lib.hid hb2
  have HG2 := Lib.hid hg2
  clear hrow hb2 hg2
  go_wp2_with fail
  go_end0
  exact ⟨rfl, y1, A, c, hy1, HROW.out.mono HG1.out.size, HB2.out, HG1.out.trans HG2.out⟩
/-- Behind the Once. -/
def ReadyOut (kb : Nat) (X : Nat → Prop) (key : List UInt8) (w : World) (e : Ending) (w' : World) : Prop :=
  e = .returned (.tuple #[]) ∧ KeyDone w' kb (OwnK X w w') key ∧ Grew (· = kb) w w'
set_option maxHeartbeats 2000000 in
theorem once_key (kb g : Nat) (X : Nat → Prop) (key : List UInt8) (w : World) (h : KeyAt w kb X key) (hk : key.length = 16 ∨ key.length = 32) (hg : w.cell? ⟨g, 0, none⟩ = some (.pointer (some ⟨kb, 0, none⟩))) (hl : g < w.heap.size) (hne : g ≠ kb) :
    Calls Tryz.prog 53 #[.pointer (some ⟨kb, 1, none⟩), .func (.func 207) #[] #[.pointer (some ⟨g, 0, none⟩)]] w (ReadyOut kb X key w) := by
  rcases h with ⟨A, c, x, y, hr, ha, hx, hy, hb⟩ | hd
  · have hs1 := hb.set 2 (.int .i32 1)
    rw [ak_sets] at hs1
    have hF := ready1_any kb g A c x y key (w.setCell ⟨kb, 2, none⟩ (.int .i32 1)) hs1 hx hy hk (hr.far (fun ad e => (ha ad e).2) _) (fun ad e => (ha ad e).2)
      (by rw [World.cell?_setCell_other _ _ _ _ (by simp only [ne_eq, Addr.mk.injEq]; omega)]; exact hg) (by simpa using hl) hne
    have hD := Once.Do_first kb 1 207 #[] #[.pointer (some ⟨g, 0, none⟩)]
      (fun w2 => ∃ y' A2 c2, y'.length = 256 ∧ Row w2 w.heap.size 16 A2 (key.length / 4 + 7) c2 (bv (kexp key (3 * (key.length / 4) + 28))) ∧ Blk w2 kb 191 (ak (.slice A key.length c) 0 1 sbL y' (.slice A2 (key.length / 4 + 7) c2)).toArray ∧ Grew (· = kb) w w2) w
      ((hb.cell _).trans (ak_d _ _ _ _ _ _)) ((hb.cell _).trans (ak_s _ _ _ _ _ _)) (hb.frozen _) (fun w => ready_enter _ w) (hF.mono fun e w2 ⟨he, y', A2, c2, e1, e2, e3, e4⟩ => ⟨he, ⟨y', A2, c2, e1, by simpa using e2, e3, ((Grew.refl (· = kb) w).set (p := ⟨kb, 2, none⟩) (.inl rfl) _).trans e4⟩,
        (e3.cell _).trans (ak_d _ _ _ _ _ _), (e3.cell _).trans (ak_s _ _ _ _ _ _), e3.frozen _, e3.frozen _⟩)
    refine hD.mono fun e w' ⟨he, w2, ⟨y', A2, c2, e1, e2, e3, e4⟩, _, _, hw'⟩ => ⟨he, ?_, ?_⟩
    · have hb' : Blk w' kb 191 (ak (.slice A key.length c) 1 0 sbL y' (.slice A2 (key.length / 4 + 7) c2)).toArray := by
        rw [hw']
        have := (e3.drew.set 1 (.int .u32 1)).set 2 (.int .i32 0)
        rwa [ak_setd, ak_sets] at this
      have hg' : Grew (· = kb) w w' := by rw [hw']; exact (e4.drew.set (p := ⟨kb, 1, none⟩) (.inl rfl) _).set (p := ⟨kb, 2, none⟩) (.inl rfl) _
      have hkl := hb.lt
      have hr' : Row w' w.heap.size 16 A2 (key.length / 4 + 7) c2 (bv (kexp key (3 * (key.length / 4) + 28))) := by
        rw [hw']; exact (e2.drew.far (fun ad e => by have := (e2.lt ad e).1; show ad.block ≠ kb; omega) _).far (fun ad e => by have := (e2.lt ad e).1; show ad.block ≠ kb; omega) _
      exact ⟨A, c, y', A2, c2, hr.grew hg' (fun ad e => (ha ad e).2), fun ad e => ⟨.inl ⟨(ha ad e).1, (hr.lt ad e).2⟩, (ha ad e).2⟩, e1, hb', hr'.mono (Nat.zero_le _), fun ad e => ⟨.inr (hr'.lt ad e), by have := (hr'.lt ad e).1; omega⟩⟩
    · rw [hw']; exact (e4.drew.set (p := ⟨kb, 1, none⟩) (.inl rfl) _).set (p := ⟨kb, 2, none⟩) (.inl rfl) _
  · obtain ⟨A, c, y, A2, c2, hr, ha, hy, hb, hr2, ha2⟩ := hd
    refine (Once.Do_done kb 1 _ w ((hb.cell _).trans (ak_d _ _ _ _ _ _))).mono fun e w' ⟨he, hw⟩ => ⟨he, ?_, ?_⟩
    · rw [← hw]; exact (show KeyDone w kb X key from ⟨A, c, y, A2, c2, hr, ha, hy, hb, hr2, ha2⟩).mono fun k hk hx => .inl ⟨hx, hk⟩
    · rw [← hw]; exact Grew.refl _ _
set_option maxRecDepth 100000 in
set_option maxHeartbeats 4000000 in
theorem ready_any (kb : Nat) (X : Nat → Prop) (key : List UInt8) (w : World) (h : KeyAt w kb X key) (hk : key.length = 16 ∨ key.length = 32) : Calls Tryz.prog 171 #[.pointer (some ⟨kb, 0, none⟩)] w (ReadyOut kb X key w) := by
  have hmf : ∀ (fn : Fn) (first cap : Array Value) (w : World), (Instr.makeFunc fn first cap).run Tryz.prog w = .ok (.func fn first cap) w := fun _ _ _ _ => rfl
  have hl := h.lt
  have H := Lib.hid h
  have HD := Lib.hid (once_key kb w.heap.size X key (w.alloc (.cells #[.pointer (some ⟨kb, 0, none⟩)] 135)) (h.below ((Below.refl w.heap.size w).alloc (Nat.le_refl _) _) (Nat.le_refl _)) hk (cell?_new _ _ _ _) (by simp) (by omega))
  clear h hk
  go_enter Tryz.func171, Tryz.ntmps171
  go_wp2_with fail
  refine HD.out.mono ?_
  rintro e w1 ⟨rfl, hd, hg⟩
  have HDD := Lib.hid hd
  have HG := Lib.hid hg
  clear hd hg HD
  go_wp2_with fail
  go_end0
  have hs := HG.out.size
  have hs2 : (w.alloc (.cells #[.pointer (some ⟨kb, 0, none⟩)] 135)).heap.size = w.heap.size + 1 := by simp
  refine ⟨rfl, HDD.out.mono fun k hk hx => ?_, (Grew.of_new ((Below.refl _ _).alloc (Nat.le_refl _) _)).trans HG.out⟩
  rcases hx with hx | hx
  · by_cases hkw : k < w.heap.size
    · exact .inl ⟨hx.1, hkw⟩
    · exact .inr ⟨by omega, hk⟩
  · exact .inr ⟨by omega, hk⟩
end Go.Proofs.YtogpnlfbdhddmaaGreatDoor
namespace Go.Proofs.YtogpnlfbdhddmaaGreatDoor
open Go.RowKit

theorem getD_rks (key : List UInt8) {r : Nat} (h : r < key.length / 4 + 7) : (rksOf key).getD r [] = ((kexp key (3 * (key.length / 4) + 28)).drop (16 * r)).take 16 := rks_at key h
/-- The cells of round key r in the row of all. -/
theorem rk_cells {w : World} {base c2 g2 o2 r : Nat} {key : List UInt8} (hk : key.length = 16 ∨ key.length = 32) (hr : Row w base 16 (some ⟨g2, o2, none⟩) (key.length / 4 + 7) c2 (bv (kexp key (3 * (key.length / 4) + 28)))) (h : r < key.length / 4 + 7) :
    ∀ j u, (bv ((rksOf key).getD r [])).toArray[j]? = some u → w.cell? ⟨g2, o2 + r * 16 + j, none⟩ = some u := fun j u hu => by
  have hj : j < 16 := by
    have := (Array.getElem?_eq_some_iff.1 hu).1
    rw [bvA_size, rks_len key hk h] at this
    exact this
  rw [getD_rks key h, List.getElem?_toArray, bv_take, List.getElem?_take, if_pos hj, bv_drop, List.getElem?_drop] at hu
  rw [Nat.add_assoc, show r * 16 + j = 16 * r + j by omega]
  exact hr.cell hu
/-- The key's memory while a block is encrypted. -/
def EncMem (w wr : World) (kb : Nat) (kA A2 : Option Addr) (kc c2 : Nat) (y key : List UInt8) : Prop :=
  Blk wr kb 191 (ak (.slice kA key.length kc) 1 0 sbL y (.slice A2 (key.length / 4 + 7) c2)).toArray ∧ Row wr 0 16 A2 (key.length / 4 + 7) c2 (bv (kexp key (3 * (key.length / 4) + 28))) ∧ Row wr 0 1 kA key.length kc (bv key) ∧ Grew (· = kb) w wr
theorem EncMem.keep {w wr w3 : World} {kb b kc c2 : Nat} {kA A2 : Option Addr} {y key : List UInt8} (h : EncMem w wr kb kA A2 kc c2 y key) (hg : Grew (· = b) wr w3) (h1 : kb ≠ b) (h2 : ∀ ad, A2 = some ad → ad.block ≠ b) (h3 : ∀ ad, kA = some ad → ad.block ≠ b) (hb : w.heap.size ≤ b) : EncMem w w3 kb kA A2 kc c2 y key :=
  ⟨h.1.grew hg h1, h.2.1.grew hg h2, h.2.2.1.grew hg h3, h.2.2.2.then_ hg fun k hk e => by have e2 : k = b := e; omega⟩
theorem EncMem.alloc {w wr : World} {kb kc c2 : Nat} {kA A2 : Option Addr} {y key : List UInt8} (h : EncMem w wr kb kA A2 kc c2 y key) (o : Obj) : EncMem w (wr.alloc o) kb kA A2 kc c2 y key :=
  ⟨h.1.alloc o, h.2.1.alloc o, h.2.2.1.alloc o, h.2.2.2.alloc o⟩
/-- Behind i rounds. -/
def EncRel (w : World) (kb b : Nat) (kA A2 : Option Addr) (kc c2 : Nat) (y key p : List UInt8) (s8 : Value) (gg : Nat) (wr : World) : Prop :=
  ∃ i : Nat, i < key.length / 4 + 7 ∧ gg = key.length / 4 + 6 - i ∧ s8 = .int .i64 ((i : Int) + 1) ∧ Bk wr b 227 (aesAt (rksOf key) p i) ∧ EncMem w wr kb kA A2 kc c2 y key
/-- What Encrypt leaves. -/
def EncOut (kb : Nat) (X : Nat → Prop) (key out : List UInt8) (w : World) (e : Ending) (w' : World) : Prop :=
  ∃ X2 : Nat → Prop, (∀ k, X2 k → (X k ∧ k < w.heap.size) ∨ w.heap.size ≤ k) ∧ KeyAt w' kb X2 key ∧ Grew (· = kb) w w' ∧ ∃ A c, e = .returned (.tuple #[.slice A 16 c, .int .i64 0]) ∧ Row w' w.heap.size 1 A 16 c (bv out) ∧ ∀ ad, A = some ad → ¬ X2 ad.block ∧ ad.block ≠ kb
set_option maxRecDepth 100000 in
set_option maxHeartbeats 8000000 in
theorem Encrypt_any (kb : Nat) (X : Nat → Prop) (key p : List UInt8) (pg po pc : Nat) (w : World) (h : KeyAt w kb X key) (hk : key.length = 16 ∨ key.length = 32) (hp : p.length = 16) (hr : Reads w w.heap.size 1 (some ⟨pg, po, none⟩) 16 (bv p)) (hpk : pg ≠ kb) :
    Calls Tryz.prog 131 #[.pointer (some ⟨kb, 0, none⟩), .slice (some ⟨pg, po, none⟩) 16 pc] w (EncOut kb X key (aesE (rksOf key) p) w) := by
  have HRD := Lib.hid (ready_any kb X key w h hk)
  obtain ⟨pb, po', he, hpl, hpc⟩ := hr.2 (by decide)
  cases he
  have HPC := Lib.hid hpc
  have HK := Lib.hid hk
  have HP := Lib.hid hp
  have hkl := h.lt
  have hat : ∀ c w, (Instr.arrayAt 227 (.slice (some ⟨pg, po, none⟩) 16 c)).run Tryz.prog w = .ok (.pointer (some ⟨pg, po, none⟩)) w := fun c w => run_arrayAt w _ _ 16 _ 16 c Tryz.underlying227 (Nat.le_refl _)
  obtain ⟨n, hn⟩ : ∃ n, n = key.length / 4 + 7 := ⟨_, rfl⟩
  have hn0 : 11 ≤ n := by omega
  have hn15 : n ≤ 15 := by omega
  have HN := Lib.hid hn
  clear h hk hp hr hpc hn
  go_enter Tryz.func131, Tryz.ntmps131
  go_wp2_with fail
  refine HRD.out.mono ?_
  rintro e w1 ⟨rfl, hd, hg1⟩
  obtain ⟨kA, kc, y, A2, c2, hkr, hka, hy, hbk, hrr, hra⟩ := hd
  have hs1 := hg1.size
  obtain ⟨g2, o2, hA2⟩ : ∃ g o, A2 = some ⟨g, o, none⟩ := by
    cases A2 with
    | none => have := hrr.2.2.2.1 rfl; have := hrr.2.1; have := HN.out; omega
    | some ad => obtain ⟨g, o, rfl, _⟩ := hrr.2.2.2.2 _ rfl; exact ⟨g, o, rfl⟩
  subst hA2
  have hg2k := (hra _ rfl).2
  have hg2l := hrr.at_.2.1
  have HPC1 := Lib.hid (show ∀ j u, (bv p).toArray[j]? = some u → w1.cell? ⟨pg, po + j, none⟩ = some u from fun j u hu => (hg1.cell (a := ⟨pg, po + j, none⟩) hpl hpk).trans (HPC.out j u (by simpa using hu)))
  have HI := Lib.hid (block_info HP.out)
  have H1 := Lib.hid (bvA_one p)
  have HS := Lib.hid (show (16 : Nat) = (bv p).toArray.size by rw [bvA_size, HP.out])
  obtain ⟨ka, hkaq⟩ : ∃ ka, ka = (bv p).toArray := ⟨_, rfl⟩
  have HKA := Lib.hid hkaq
  rw [← hkaq] at HPC1 HI H1 HS
  have hm1 : EncMem w w1 kb kA (some ⟨g2, o2, none⟩) kc c2 y key := ⟨hbk, hrr, hkr, hg1⟩
  have hkb1 := hbk.lt
  obtain ⟨b, hb⟩ : ∃ b, b = w1.heap.size := ⟨_, rfl⟩
  have hkl1 : ∀ ad, kA = some ad → ad.block ≠ b := fun ad e => by have := (hkr.lt ad e).2; omega
  have hal1 : ∀ ad, (some ⟨g2, o2, none⟩ : Option Addr) = some ad → ad.block ≠ b := fun ad e => by cases e; show g2 ≠ b; omega
  have hbw : w.heap.size ≤ b := by omega
  have hkbb : kb ≠ b := by omega
  have HM1 := Lib.hid hm1
  have HKL1 := Lib.hid hkl1
  have HAL1 := Lib.hid hal1
  have HKO := Lib.hid hka
  have HRO := Lib.hid hra
  have HKR1 := Lib.hid hkr
  have HB := Lib.hid hb
  clear hbk hrr hkr hg1 hka hra hkaq hm1 hkl1 hal1 hb
  go_upto_region 5 with (first
    | (refine wpList_load_cells rfl 227 (.tmp 15) rfl pg po rfl ka _ HPC1.out Tryz.underlying227 rfl HI.out ?_)
    | (refine wpList_store_new rfl 227 (.tmp 6) (.tmp 16) rfl _ _ ka rfl rfl HI.out HS.out H1.out ?_))
  dsimp only [Act.put]
  have hb2 : Bk (w1.alloc (.cells ka 227)) b 227 p := by rw [HKA.out, HB.out]; exact Blk.new _ _ _
  have HB2 := Lib.hid hb2
  have HM2 := Lib.hid (HM1.out.alloc (.cells ka 227))
  rw [← HB.out]
  generalize w1.alloc (.cells ka 227) = w2 at HB2 HM2 ⊢
  have c516 : w2.cell? ⟨kb, 516, none⟩ = some (.slice (some ⟨g2, o2, none⟩) n c2) := by rw [HN.out]; exact (HM2.out.1.cell 516).trans (ak_rat _ _ _ _ _ _ length_sbL hy)
  have hr0 := rk_cells (r := 0) HK.out HM2.out.2.1 (by rw [← HN.out]; omega)
  rw [Nat.zero_mul, Nat.add_zero] at hr0
  have HR0 := Lib.hid hr0
  have hl0 := rks_len key HK.out (r := 0) (by rw [← HN.out]; omega)
  have HI0 := Lib.hid (block_info hl0)
  have HLAY := Lib.hid (lay_any b 227 p ((rksOf key).getD 0 []) w2 HB2.out HP.out hl0)
  clear hr0 hat hl0 HPC1 HI H1 HS HPC
  go_wp2_with (refine wpList_load_cells rfl 227 (.tmp 27) rfl g2 o2 rfl _ _ HR0.out Tryz.underlying227 rfl HI0.out ?_)
  refine HLAY.out.mono ?_
  rintro e w3 ⟨rfl, hb3, hg3⟩
  have HST : Hid (EncRel w kb b kA (some ⟨g2, o2, none⟩) kc c2 y key p (.int .i64 1) (n - 1) w3) := Lib.hid ⟨0, by omega, by have := HN.out; omega, rfl, hb3, HM2.out.keep hg3 hkbb HAL1.out HKL1.out hbw⟩
  clear hb3 hg3 HLAY HR0 HI0 HB2 HM2 c516 HM1
  go_wp2_with fail
  go_loopg [8] (n - 1) (fun gg s8 wx => EncRel w kb b kA (some ⟨g2, o2, none⟩) kc c2 y key p s8 gg wx)
  case atStart => exact HST.out
  case round =>
    clear HST
    obtain ⟨i, hi, hgg, rfl, hbk, hm⟩ := hrel
    have HGG := Lib.hid hgg
    rw [← HN.out] at hi
    clear hgg
    have c516 : wr.cell? ⟨kb, 516, none⟩ = some (.slice (some ⟨g2, o2, none⟩) n c2) := by rw [HN.out]; exact (hm.1.cell 516).trans (ak_rat _ _ _ _ _ _ length_sbL hy)
    have HBK := Lib.hid hbk
    have HM := Lib.hid hm
    have hks : (rksOf key).length = n := by rw [length_rks, HN.out]
    have HKS := Lib.hid hks
    clear hbk hm hks
    by_cases hlt : i + 1 < n
    · have hl16 : (aesAt (rksOf key) p i).length = 16 := length_aesAt HP.out (fun r hr => rks_len key HK.out (by rw [← HN.out, ← HKS.out]; exact hr)) i (by rw [HKS.out]; exact hi)
      have HT := Lib.hid (turn_any b kb 4 227 _ wr HBK.out hl16 (box_of HM.out.1) HM.out.1.lt hkbb)
      have hrk := rks_len key HK.out (r := i + 1) (by rw [← HN.out]; exact hlt)
      have HI := Lib.hid (block_info hrk)
      have HRK := Lib.hid hrk
      have HRC := Lib.hid (fun w5 (hm5 : EncMem w w5 kb kA (some ⟨g2, o2, none⟩) kc c2 y key) => rk_cells (r := i + 1) HK.out hm5.2.1 (by rw [← HN.out]; exact hlt))
      have HC5 := Lib.hid (fun w5 (hm5 : EncMem w w5 kb kA (some ⟨g2, o2, none⟩) kc c2 y key) => (show w5.cell? ⟨kb, 516, none⟩ = some (.slice (some ⟨g2, o2, none⟩) n c2) by rw [HN.out]; exact (hm5.1.cell 516).trans (ak_rat _ _ _ _ _ _ length_sbL hy)))
      have d1 : (i : Int) + 1 ≤ (n : Int) - 1 := by omega
      have d4 : (0 : Int) ≤ (i : Int) + 1 := by omega
      have d5 : (i : Int) + 1 < (n : Int) := by omega
      have d6 : ((i : Int) + 1).toNat = i + 1 := by omega
      clear hl16 hrk c516
      by_cases hmid : i + 1 < n - 1
      · have d3 : (i : Int) + 1 < (n : Int) - 1 := by omega
        have HAE := Lib.hid (aesAt_mid (ks := rksOf key) (b := p) (i := i) (by rw [HKS.out]; exact hmid))
        go_wp2_with fail
        refine HT.out.mono ?_
        rintro e w4 ⟨rfl, hb4, hg4⟩
        have HM4 := Lib.hid (HM.out.keep hg4 hkbb HAL1.out HKL1.out hbw)
        have HX := Lib.hid (mix_any b 227 _ w4 hb4 (length_turnL _))
        clear hb4 hg4
        go_wp2_with fail
        refine HX.out.mono ?_
        rintro e w5 ⟨rfl, hb5, hg5⟩
        have HM5 := Lib.hid (HM4.out.keep hg5 hkbb HAL1.out HKL1.out hbw)
        have c5 := HC5.out w5 HM5.out
        have HLY := Lib.hid (lay_any b 227 _ _ w5 hb5 (length_mixL _) HRK.out)
        rw [← HAE.out] at HLY
        clear hb5 hg5
        go_wp2_with (refine wpList_load_cells rfl 227 (.tmp 48) rfl g2 (o2 + (i + 1) * 16) rfl _ _ (HRC.out w5 HM5.out) Tryz.underlying227 rfl HI.out ?_)
        refine HLY.out.mono ?_
        rintro e w6 ⟨rfl, hb6, hg6⟩
        have HNE : Hid (EncRel w kb b kA (some ⟨g2, o2, none⟩) kc c2 y key p (.int .i64 ((i : Int) + 1 + 1)) (gk - 1) w6) := Lib.hid ⟨i + 1, by rw [← HN.out]; exact hlt, by have := HGG.out; have := HN.out; omega, by go_num, hb6, HM5.out.keep hg6 hkbb HAL1.out HKL1.out hbw⟩
        clear hb6 hg6
        go_wp2_with fail
        go_roundg (gk - 1)
        case measure => have := HGG.out; have := HN.out; omega
        case rel => exact HNE.out
      · have d3 : ¬ (i : Int) + 1 < (n : Int) - 1 := by omega
        have HAE := Lib.hid (aesAt_last (ks := rksOf key) (b := p) (i := i) (by rw [HKS.out]; exact hmid))
        go_wp2_with fail
        refine HT.out.mono ?_
        rintro e w5 ⟨rfl, hb5, hg5⟩
        have HM5 := Lib.hid (HM.out.keep hg5 hkbb HAL1.out HKL1.out hbw)
        have c5 := HC5.out w5 HM5.out
        have HLY := Lib.hid (lay_any b 227 _ _ w5 hb5 (length_turnL _) HRK.out)
        rw [← HAE.out] at HLY
        clear hb5 hg5
        go_wp2_with (refine wpList_load_cells rfl 227 (.tmp 48) rfl g2 (o2 + (i + 1) * 16) rfl _ _ (HRC.out w5 HM5.out) Tryz.underlying227 rfl HI.out ?_)
        refine HLY.out.mono ?_
        rintro e w6 ⟨rfl, hb6, hg6⟩
        have HNE : Hid (EncRel w kb b kA (some ⟨g2, o2, none⟩) kc c2 y key p (.int .i64 ((i : Int) + 1 + 1)) (gk - 1) w6) := Lib.hid ⟨i + 1, by rw [← HN.out]; exact hlt, by have := HGG.out; have := HN.out; omega, by go_num, hb6, HM5.out.keep hg6 hkbb HAL1.out HKL1.out hbw⟩
        clear hb6 hg6
        go_wp2_with fail
        go_roundg (gk - 1)
        case measure => have := HGG.out; have := HN.out; omega
        case rel => exact HNE.out
    · have hie : i = n - 1 := by omega
      have HOE := Lib.hid (show aesAt (rksOf key) p i = aesE (rksOf key) p by unfold aesE; rw [HKS.out, hie])
      have hl16 : (aesE (rksOf key) p).length = 16 := length_aesE HP.out HK.out
      have hrd : Reads wr (b + 1) 1 (some ⟨b, 0, none⟩) 16 (bv (aesE (rksOf key) p)) := by
        refine ⟨by rw [length_bv, hl16], fun _ => ⟨b, 0, rfl, by omega, fun j u hu => ?_⟩⟩
        rw [← HOE.out] at hu
        rw [Nat.zero_add, Blk.cell HBK.out]
        simpa using hu
      have HCL := Lib.hid (bClone_any (some ⟨b, 0, none⟩) 16 16 (b + 1) (aesE (rksOf key) p) wr hrd (by have := HBK.out.lt; omega) (by decide))
      have HL16 := Lib.hid hl16
      have d1 : ¬ (i : Int) + 1 ≤ (n : Int) - 1 := by omega
      have hbl := HBK.out.lt
      clear hrd hl16 hie c516
      go_wp2_with fail
      refine HCL.out.mono ?_
      rintro e w7 ⟨A7, c7, rfl, hrow7, hb7⟩
      rw [HL16.out] at hrow7
      have HROW := Lib.hid hrow7
      have HB7 := Lib.hid hb7
      have hl := HL16.out
      rw [hl]
      clear hrow7 hb7 hl
      go_wp2_with fail
      go_ret2
      have hm := HM.out
      refine ⟨OwnK X w w1, fun k hk => hk.imp id (·.1), .inr ⟨kA, kc, y, some ⟨g2, o2, none⟩, c2, hm.2.2.1.below HB7.out (Nat.le_refl _), HKO.out, hy, hm.1.below HB7.out hm.1.lt, hm.2.1.below HB7.out (Nat.le_refl _), HRO.out⟩, hm.2.2.2.trans (Grew.of_new HB7.out), A7, c7, rfl, HROW.out.mono hm.2.2.2.size, fun ad e => ⟨fun hx => ?_, ?_⟩⟩
      · have h1 := (HROW.out.lt ad e).1
        have h2 := HB.out
        rcases hx with hx | hx <;> omega
      · have h1 := (HROW.out.lt ad e).1
        have h2 := hm.1.lt
        omega
end Go.Proofs.YtogpnlfbdhddmaaGreatDoor
