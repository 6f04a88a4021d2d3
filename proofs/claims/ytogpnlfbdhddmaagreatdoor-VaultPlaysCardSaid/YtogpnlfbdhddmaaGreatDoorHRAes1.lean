/- THE WALK of the reference of aes: lay. -/
import Derived.Test.YtogpnlfbdhddmaaGreatDoorHRField4
namespace Go.Proofs.YtogpnlfbdhddmaaGreatDoor
open Go.RowKit

theorem make16r (w : World) : (Instr.makeSlice 27 (.int .i64 16) (.int .i64 16)).run Tryz.prog w = .ok (.slice (some ⟨w.heap.size, 0, none⟩) 16 16) (w.alloc (.cells (bv (zeros' 16)).toArray 5)) := by kernel_rfl
/-- Behind i bytes laid. -/
def LayRel (w : World) (a b : List UInt8) (i : Value) (wr : World) : Prop :=
  ∃ j : Nat, j ≤ 16 ∧ i = .int .i64 j ∧ Row wr w.heap.size 1 (some ⟨w.heap.size, 0, none⟩) 16 16 (bv (setsTo (fun i => a.getD i 0 ^^^ b.getD i 0) (zeros' 16) j)) ∧ Below w.heap.size w wr
theorem LayRel.drew {w wr : World} {a b : List UInt8} {i : Value} (h : LayRel w a b i wr) : LayRel w a b i wr.drew := by
  obtain ⟨j, h1, h2, h3, h4⟩ := h
  exact ⟨j, h1, h2, h3.below (B := wr.heap.size) (Below.refl _ _).drew (Nat.le_refl _), h4.drew⟩
theorem lay_all (a b : List UInt8) (ha : a.length = 16) (hb : b.length = 16) : setsTo (fun i => a.getD i 0 ^^^ b.getD i 0) (zeros' 16) 16 = xorL a b := by
  rw [setsTo_all _ _ (n := 16) rfl]
  apply List.ext_getElem?
  intro i
  by_cases hi : i < 16
  · rw [getD_xorL a b i (by omega) (by omega)]
    simp [hi, List.getD_eq_getElem?_getD, List.getElem?_eq_getElem (show i < a.length by omega), List.getElem?_eq_getElem (show i < b.length by omega)]
  · rw [List.getElem?_eq_none (by simp; omega), List.getElem?_eq_none (by rw [length_xorL]; omega)]
set_option maxRecDepth 100000 in
set_option maxHeartbeats 4000000 in
theorem rlay_any (a b : List UInt8) (PA PB : Option Addr) (ca cb : Nat) (w : World) (ha : a.length = 16) (hb : b.length = 16) (hra : Reads w w.heap.size 1 PA 16 (bv a)) (hrb : Reads w w.heap.size 1 PB 16 (bv b)) :
    Calls Tryz.prog 186 #[.slice PA 16 ca, .slice PB 16 cb] w fun e w' => ∃ A c, e = .returned (.slice A 16 c) ∧ Row w' w.heap.size 1 A 16 c (bv (xorL a b)) ∧ Below w.heap.size w w' := by
  have hmk := make16r
  obtain ⟨ga, oa, rfl, hga, hca⟩ := hra.2 (by decide)
  obtain ⟨gb, ob, rfl, hgb, hcb⟩ := hrb.2 (by decide)
  have HST := Lib.hid (show LayRel w a b (.int .i64 0) (w.alloc (.cells (bv (zeros' 16)).toArray 5)) from ⟨0, by omega, rfl, Row.lit w (bv (zeros' 16)).toArray 5 rfl (Nat.le_refl _) (by decide), (Below.refl _ _).alloc (Nat.le_refl _) _⟩)
  have HCA := Lib.hid hca
  have HCB := Lib.hid hcb
  clear hca hcb hra hrb
  go_enter Tryz.func186, Tryz.ntmps186
  go_wp2_with fail
  go_loopw [6] (fun i wr => LayRel w a b i wr) (fun i _ => 16 - (intOf i).toNat)
  case atStart => exact HST.out
  case round =>
    clear HST hmk
    obtain ⟨j, hj, rfl, hrow, hbl⟩ := hrel
    by_cases hlt : j < 16
    · have f1 := row_free0 hrow (j := j) hlt
      have c1 := row_byte0 hrow (j := j) (by rw [length_setsTo]; exact hlt)
      have c2 := (hbl.cell (p := ⟨ga, oa + j, none⟩) hga).trans (HCA.out j _ (bv_at a j (by omega)))
      have c3 := (hbl.cell (p := ⟨gb, ob + j, none⟩) hgb).trans (HCB.out j _ (bv_at b j (by omega)))
      have HNE := Lib.hid (show LayRel w a b (.int .i64 ((j : Int) + 1)) (wr.setCell ⟨w.heap.size, j, none⟩ (.int .u8 ((a[j] ^^^ b[j]).toNat : Int))) from ⟨j + 1, by omega, by go_num, by
        have h := row_set0 hrow (j := j) hlt (c := a[j] ^^^ b[j]) rfl
        have e : a[j] ^^^ b[j] = a.getD j 0 ^^^ b.getD j 0 := by simp [List.getD_eq_getElem?_getD, List.getElem?_eq_getElem (show j < a.length by omega), List.getElem?_eq_getElem (show j < b.length by omega)]
        rw [e] at h ⊢
        exact h, hbl.setCell (Nat.le_refl _) _⟩)
      have HF := Lib.hid (bx_xor a[j] b[j])
      generalize ((setsTo (fun i => a.getD i 0 ^^^ b.getD i 0) (zeros' 16) j)[j]'_).toNat = Y at c1
      generalize a[j] = aj at *
      generalize b[j] = bj at *
      have hi : (j : Int) < 16 := by omega
      clear hrow hbl
      go_wp2_with fail
      go_region
      go_wp2_with fail
      go_roundw
      case rel => rw [HF.out]; first | exact HNE.out.drew | exact HNE.out
      case measure => simp [intOf]; omega
    · obtain rfl : j = 16 := by omega
      rw [lay_all a b ha hb] at hrow
      have HROW := Lib.hid hrow
      have HBL := Lib.hid hbl
      clear hrow hbl
      go_wp2_with fail
      go_ret
      exact ⟨_, _, rfl, HROW.out, HBL.out⟩
end Go.Proofs.YtogpnlfbdhddmaaGreatDoor
