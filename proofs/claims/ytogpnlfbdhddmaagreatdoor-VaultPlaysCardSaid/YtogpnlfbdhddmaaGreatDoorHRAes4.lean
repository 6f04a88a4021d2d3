/- THE WALK of the reference of aes: shift by 1. -/
import Derived.Test.YtogpnlfbdhddmaaGreatDoorHRAes3
namespace Go.Proofs.YtogpnlfbdhddmaaGreatDoor
open Go.RowKit

/-- Behind n bytes turned. -/
def TurnRel (w : World) (a : List UInt8) (n : Nat) (wr : World) : Prop :=
  Row wr w.heap.size 1 (some ⟨w.heap.size, 0, none⟩) 16 16 (bv (setsTo (fun i => a.getD (trn i) 0) (zeros' 16) n)) ∧ Below w.heap.size w wr
theorem TurnRel.drew {w wr : World} {a : List UInt8} {n : Nat} (h : TurnRel w a n wr) : TurnRel w a n wr.drew :=
  ⟨h.1.below (B := wr.heap.size) (Below.refl _ _).drew (Nat.le_refl _), h.2.drew⟩
set_option maxRecDepth 100000 in
set_option maxHeartbeats 4000000 in
theorem rshift_any (a : List UInt8) (PA : Option Addr) (ca : Nat) (w : World) (ha : a.length = 16) (hra : Reads w w.heap.size 1 PA 16 (bv a)) :
    Calls Tryz.prog 187 #[.slice PA 16 ca, .int .i64 1] w fun e w' => ∃ A c, e = .returned (.slice A 16 c) ∧ Row w' w.heap.size 1 A 16 c (bv ((List.range 16).map fun i => a.getD (trn i) 0)) ∧ Below w.heap.size w w' := by
  have hmk := make16r
  obtain ⟨ga, oa, rfl, hga, hca⟩ := hra.2 (by decide)
  have HST := Lib.hid (show TurnRel w a 0 (w.alloc (.cells (bv (zeros' 16)).toArray 5)) from ⟨Row.lit w (bv (zeros' 16)).toArray 5 rfl (Nat.le_refl _) (by decide), (Below.refl _ _).alloc (Nat.le_refl _) _⟩)
  have HCA := Lib.hid hca
  clear hca hra
  go_enter Tryz.func187, Tryz.ntmps187
  go_wp2_with fail
  go_loopw [6] (fun i wr => ∃ k : Nat, k ≤ 4 ∧ i = .int .i64 k ∧ TurnRel w a (4 * k) wr) (fun i _ => 4 - (intOf i).toNat)
  case atStart => exact ⟨0, by omega, rfl, HST.out⟩
  case round =>
    clear HST hmk
    obtain ⟨k, hk, rfl, hrel⟩ := hrel
    have HREL := Lib.hid hrel
    clear hrel
    by_cases hlt : k < 4
    · have hki : (k : Int) < 4 := by omega
      go_wp2_with fail
      go_loopw [7] (fun i wr => ∃ l : Nat, l ≤ 4 ∧ i = .int .i64 l ∧ TurnRel w a (4 * k + l) wr) (fun i _ => 4 - (intOf i).toNat)
      case atStart => exact ⟨0, by omega, rfl, HREL.out⟩
      case round =>
        clear HREL
        obtain ⟨l, hl, rfl, hrow, hbl⟩ := hrel
        by_cases hl4 : l < 4
        · have hli : (l : Int) < 4 := by omega
          have hbl' := hbl
          obtain ⟨p, hp⟩ : ∃ p, p = 4 * k + l := ⟨_, rfl⟩
          obtain ⟨T, hT⟩ : ∃ T, T = trn p := ⟨_, rfl⟩
          have hT16 : T < 16 := by rw [hT]; exact Nat.mod_lt _ (by decide)
          rw [← hp] at hrow
          have hp16 : p < 16 := by omega
          have f1 := row_free0 hrow (j := p) hp16
          have c1 := row_byte0 hrow (j := p) (by rw [length_setsTo]; exact hp16)
          have c2 := (hbl.cell (p := ⟨ga, oa + T, none⟩) hga).trans (HCA.out T _ (bv_at a T (by omega)))
          have HNE := Lib.hid (show TurnRel w a (4 * k + (l + 1)) (wr.setCell ⟨w.heap.size, p, none⟩ (.int .u8 ((a[T]'(by omega)).toNat : Int))) from by
            refine ⟨?_, hbl'.setCell (Nat.le_refl _) _⟩
            rw [show 4 * k + (l + 1) = p + 1 by omega]
            have h := row_set0 hrow (j := p) hp16 (c := a[T]'(by omega)) rfl
            have e : a[T]'(by omega) = a.getD (trn p) 0 := by rw [← hT]; simp [List.getD_eq_getElem?_getD, List.getElem?_eq_getElem (show T < a.length by omega)]
            rw [e] at h ⊢
            exact h)
          have e1 : (4 : Int) * (k : Int) + (l : Int) = (p : Int) := by omega
          have e2 : ((p : Int) + 4 * (l : Int)) % 16 = (T : Int) := by
            rw [hT]; unfold trn
            rw [show p % 4 = l by omega]; omega
          have e3 : (p : Int) < 16 := by omega
          have e4 : (T : Int) < 16 := by omega
          generalize ((setsTo (fun i => a.getD (trn i) 0) (zeros' 16) p)[p]'_).toNat = Y at c1
          generalize (a[T]'(by omega)).toNat = S at *
          clear hrow hbl hbl' hp hT
          go_wp2_with fail
          go_roundw
          case rel => exact ⟨l + 1, by omega, by go_num, HNE.out⟩
          case measure => simp [intOf]; omega
        · obtain rfl : l = 4 := by omega
          have HR := Lib.hid (show TurnRel w a (4 * (k + 1)) _ from ⟨hrow, hbl⟩)
          clear hrow hbl
          go_wp2_with fail
          exact ⟨⟨k + 1, by omega, by go_num, HR.out⟩, by simp [intOf]; omega⟩
    · obtain rfl : k = 4 := by omega
      have h16 : setsTo (fun i => a.getD (trn i) 0) (zeros' 16) 16 = (List.range 16).map fun i => a.getD (trn i) 0 := setsTo_all _ _ rfl
      go_wp2_with fail
      go_ret
      exact ⟨_, _, rfl, by rw [← h16]; exact HREL.out.1, HREL.out.2⟩
end Go.Proofs.YtogpnlfbdhddmaaGreatDoor
