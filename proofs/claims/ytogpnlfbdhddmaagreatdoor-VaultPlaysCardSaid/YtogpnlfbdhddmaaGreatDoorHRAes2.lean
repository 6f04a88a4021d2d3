/- THE WALK of the reference of aes: swap under its map. -/
import Derived.Test.YtogpnlfbdhddmaaGreatDoorHRAes1
namespace Go.Proofs.YtogpnlfbdhddmaaGreatDoor
open Go.RowKit

/-- Behind i bytes mapped. -/
def SwapRel (w : World) (a : List UInt8) (i : Value) (wr : World) : Prop :=
  ∃ j : Nat, j ≤ 16 ∧ i = .int .i64 j ∧ Row wr w.heap.size 1 (some ⟨w.heap.size, 0, none⟩) 16 16 (bv (setsTo (fun i => sb (a.getD i 0)) (zeros' 16) j)) ∧ Below w.heap.size w wr
theorem SwapRel.drew {w wr : World} {a : List UInt8} {i : Value} (h : SwapRel w a i wr) : SwapRel w a i wr.drew := by
  obtain ⟨j, h1, h2, h3, h4⟩ := h
  exact ⟨j, h1, h2, h3.below (B := wr.heap.size) (Below.refl _ _).drew (Nat.le_refl _), h4.drew⟩
theorem swap_all (a : List UInt8) (ha : a.length = 16) : setsTo (fun i => sb (a.getD i 0)) (zeros' 16) 16 = a.map sb := by
  rw [setsTo_all _ _ (n := 16) rfl]
  apply List.ext_getElem?
  intro i
  by_cases hi : i < 16
  · simp [hi, List.getD_eq_getElem?_getD, List.getElem?_eq_getElem (show i < a.length by omega)]
  · rw [List.getElem?_eq_none (by simp; omega), List.getElem?_eq_none (by simp; omega)]
set_option maxRecDepth 100000 in
set_option maxHeartbeats 4000000 in
theorem rswap_any (a : List UInt8) (PA PB : Option Addr) (ca cb : Nat) (w : World) (ha : a.length = 16) (hra : Reads w w.heap.size 1 PA 16 (bv a)) (hrb : Reads w w.heap.size 1 PB 256 (bv sbL)) :
    Calls Tryz.prog 188 #[.slice PA 16 ca, .slice PB 256 cb] w fun e w' => ∃ A c, e = .returned (.slice A 16 c) ∧ Row w' w.heap.size 1 A 16 c (bv (a.map sb)) ∧ Below w.heap.size w w' := by
  have hmk := make16r
  obtain ⟨ga, oa, rfl, hga, hca⟩ := hra.2 (by decide)
  obtain ⟨gb, ob, rfl, hgb, hcb⟩ := hrb.2 (by decide)
  have HST := Lib.hid (show SwapRel w a (.int .i64 0) (w.alloc (.cells (bv (zeros' 16)).toArray 5)) from ⟨0, by omega, rfl, Row.lit w (bv (zeros' 16)).toArray 5 rfl (Nat.le_refl _) (by decide), (Below.refl _ _).alloc (Nat.le_refl _) _⟩)
  have HCA := Lib.hid hca
  have HCB := Lib.hid hcb
  clear hca hcb hra hrb
  go_enter Tryz.func188, Tryz.ntmps188
  go_wp2_with fail
  go_loopw [6] (fun i wr => SwapRel w a i wr) (fun i _ => 16 - (intOf i).toNat)
  case atStart => exact HST.out
  case round =>
    clear HST hmk
    obtain ⟨j, hj, rfl, hrow, hbl⟩ := hrel
    by_cases hlt : j < 16
    · obtain ⟨x, hx⟩ : ∃ x, x = a[j] := ⟨_, rfl⟩
      have hxl := x.toNat_lt
      have f1 := row_free0 hrow (j := j) hlt
      have c1 := row_byte0 hrow (j := j) (by rw [length_setsTo]; exact hlt)
      have c2 := (hbl.cell (p := ⟨ga, oa + j, none⟩) hga).trans (HCA.out j _ (bv_at a j (by omega)))
      rw [← hx] at c2
      have hs : sbL[x.toNat]'(by rw [length_sbL]; exact hxl) = sb x := by
        have h := sbL_at x.toNat hxl
        rw [UInt8.ofNat_toNat] at h
        simpa [List.getD_eq_getElem?_getD, List.getElem?_eq_getElem (show x.toNat < sbL.length by rw [length_sbL]; exact hxl)] using h
      have c3 := (hbl.cell (p := ⟨gb, ob + x.toNat, none⟩) hgb).trans (HCB.out x.toNat _ (bv_at sbL x.toNat (by rw [length_sbL]; exact hxl)))
      rw [hs] at c3
      have HNE := Lib.hid (show SwapRel w a (.int .i64 ((j : Int) + 1)) (wr.setCell ⟨w.heap.size, j, none⟩ (.int .u8 ((sb x).toNat : Int))) from ⟨j + 1, by omega, by go_num, by
        have h := row_set0 hrow (j := j) hlt (c := sb x) rfl
        have e : x = a.getD j 0 := by simp [hx, List.getD_eq_getElem?_getD, List.getElem?_eq_getElem (show j < a.length by omega)]
        rw [e] at h ⊢
        exact h, hbl.setCell (Nat.le_refl _) _⟩)
      generalize ((setsTo (fun i => sb (a.getD i 0)) (zeros' 16) j)[j]'_).toNat = Y at c1
      have hi : (j : Int) < 16 := by omega
      clear hrow hbl hs hx
      generalize (sb x).toNat = S at *
      generalize x.toNat = X at *
      go_wp2_with fail
      go_roundw
      case rel => first | exact HNE.out.drew | exact HNE.out
      case measure => simp [intOf]; omega
    · obtain rfl : j = 16 := by omega
      rw [swap_all a ha] at hrow
      have HROW := Lib.hid hrow
      have HBL := Lib.hid hbl
      clear hrow hbl
      go_wp2_with fail
      go_ret
      exact ⟨_, _, rfl, HROW.out, HBL.out⟩
end Go.Proofs.YtogpnlfbdhddmaaGreatDoor
