/- THE WALK of the reference of aes: mix by 2, 3, 1, 1. -/
import Derived.Test.YtogpnlfbdhddmaaGreatDoorHRAes4
import Derived.Test.YtogpnlfbdhddmaaGreatDoorHRAesP
import Derived.Deep.QuietTactic
import Derived.BigQuiet
import Derived.IntWalk
namespace Go.Proofs.YtogpnlfbdhddmaaGreatDoor
open Go.RowKit

/-- Numbers as cells. -/
def nv (l : List Nat) : List Value := l.map fun (x : Nat) => .int .i64 (x : Int)
theorem fct_at {j : Nat} (h : j < 4) : (nv [2, 3, 1, 1])[j]? = some (.int .i64 (fct j : Nat)) := by
  obtain rfl | rfl | rfl | rfl : j = 0 ∨ j = 1 ∨ j = 2 ∨ j = 3 := by omega
  all_goals rfl
/-- Behind n bytes mixed. -/
def MixRel (w : World) (b : List UInt8) (n : Nat) (wr : World) : Prop :=
  Row wr w.heap.size 1 (some ⟨w.heap.size, 0, none⟩) 16 16 (bv (setsTo (mixB b) (zeros' 16) n)) ∧ Below w.heap.size w wr
theorem MixRel.drewN {w wr : World} {b : List UInt8} {n : Nat} (h : MixRel w b n wr) (k : Nat) : MixRel w b n (wr.drewN k) := ⟨h.1.drewN k, below_drewN h.2 k⟩
set_option maxRecDepth 100000 in
set_option maxHeartbeats 8000000 in
theorem rmix_any (b : List UInt8) (PB PF : Option Addr) (cb cf : Nat) (w : World) (hb : b.length = 16) (hrb : Reads w w.heap.size 1 PB 16 (bv b)) (hrf : Reads w w.heap.size 1 PF 4 (nv [2, 3, 1, 1])) :
    Calls Tryz.prog 189 #[.slice PB 16 cb, .slice PF 4 cf] w fun e w' => ∃ A c, e = .returned (.slice A 16 c) ∧ Row w' w.heap.size 1 A 16 c (bv (mixL b)) ∧ Below w.heap.size w w' := by
  have hmk := make16r
  obtain ⟨gb, ob, rfl, hgb, hcb⟩ := hrb.2 (by decide)
  obtain ⟨gf, og, rfl, hgf, hcf⟩ := hrf.2 (by decide)
  have HST := Lib.hid (show MixRel w b 0 (w.alloc (.cells (bv (zeros' 16)).toArray 5)) from ⟨Row.lit w (bv (zeros' 16)).toArray 5 rfl (Nat.le_refl _) (by decide), (Below.refl _ _).alloc (Nat.le_refl _) _⟩)
  have HCB := Lib.hid hcb
  have HCF := Lib.hid hcf
  clear hcb hcf hrb hrf
  go_enter Tryz.func189, Tryz.ntmps189
  go_wp2_with fail
  go_loopw [6] (fun i wr => ∃ k : Nat, k ≤ 4 ∧ i = .int .i64 k ∧ MixRel w b (4 * k) wr) (fun i _ => 4 - (intOf i).toNat)
  case atStart => exact ⟨0, by omega, rfl, HST.out⟩
  case round =>
    clear HST hmk
    obtain ⟨k, hk, rfl, hrel⟩ := hrel
    have HREL := Lib.hid hrel
    clear hrel
    by_cases hlt : k < 4
    · have hki : (k : Int) < 4 := by omega
      go_wp2_with fail
      go_loopw [7] (fun i wr => ∃ l : Nat, l ≤ 4 ∧ i = .int .i64 l ∧ MixRel w b (4 * k + l) wr) (fun i _ => 4 - (intOf i).toNat)
      case atStart => exact ⟨0, by omega, rfl, HREL.out⟩
      case round =>
        clear HREL
        obtain ⟨l, hl, rfl, hrel⟩ := hrel
        have HREL := Lib.hid hrel
        clear hrel
        by_cases hl4 : l < 4
        · have hli : (l : Int) < 4 := by omega
          go_wp2_with fail
          go_loopw [8, 9] (fun x i wr => ∃ j : Nat, j ≤ 4 ∧ x = .int .u8 ((mixAt b k l j).toNat : Int) ∧ i = .int .i64 j ∧ MixRel w b (4 * k + l) wr) (fun _ i _ => 4 - (intOf i).toNat)
          case atStart => exact ⟨0, by omega, rfl, rfl, HREL.out⟩
          case round =>
            clear HREL
            obtain ⟨j, hj, rfl, rfl, hrel⟩ := hrel
            have HREL := Lib.hid hrel
            by_cases hj4 : j < 4
            · have hji : (j : Int) < 4 := by omega
              obtain ⟨M, hM⟩ : ∃ M, M = (l + j) % 4 := ⟨_, rfl⟩
              obtain ⟨q, hq⟩ : ∃ q, q = 4 * k + M := ⟨_, rfl⟩
              have hM4 : M < 4 := by omega
              have hq16 : q < b.length := by omega
              have hqi : (q : Int) < 16 := by omega
              have c1 := (hrel.2.cell (p := ⟨gf, og + j, none⟩) hgf).trans (HCF.out j _ (fct_at hj4))
              have c2 := (hrel.2.cell (p := ⟨gb, ob + q, none⟩) hgb).trans (HCB.out q _ (bv_at b q hq16))
              have hnx : mixAt b k l (j + 1) = mixAt b k l j ^^^ fin3 (fct j) 0 b[q] := by
                show mixAt b k l j ^^^ fin3 (fct j) 0 (b.getD (4 * k + (l + j) % 4) 0) = _
                rw [← hM, ← hq]; simp [List.getD_eq_getElem?_getD, List.getElem?_eq_getElem hq16]
              have HNX := Lib.hid hnx
              have HT := Lib.hid (fun w => rtimes_any (fct j) b[q] w (fct_le j))
              have HXR := Lib.hid (bx_xor (mixAt b k l j) (fin3 (fct j) 0 b[q]))
              have k1 : IntKind.i64.wrap (4 * (k : Int)) = 4 * (k : Int) := IntWalk.i64_in _ (by omega)
              have k2 : IntKind.i64.wrap ((l : Int) + (j : Int)) = (l : Int) + (j : Int) := IntWalk.i64_in _ (by omega)
              have k3 : ((l : Int) + (j : Int)).tmod 4 = (M : Int) := by rw [Int.tmod_eq_emod_of_nonneg (by omega)]; omega
              have k4 : IntKind.i64.wrap (4 * (k : Int) + (M : Int)) = (q : Int) := by rw [show 4 * (k : Int) + (M : Int) = (q : Int) by omega]; exact IntWalk.i64_in _ (by omega)
              have k5 : IntKind.i64.wrap (M : Int) = (M : Int) := IntWalk.i64_in _ (by omega)
              clear hnx hrel hM hq hM4
              generalize fct j = F at *
              generalize b[q] = bq at *
              generalize mixAt b k l j = mx at *
              generalize fin3 F 0 bq = fx at *
              go_wp2_with fail
              go_quiet (exact Calls.quiet_of_same ((HT.out _).mono fun _ _ h => ⟨h.1, h.2.symm⟩))
              go_wp2_with fail
              go_roundw
              case rel => exact ⟨j + 1, by omega, by rw [HNX.out, HXR.out], by go_num, HREL.out.drewN _⟩
              case measure => simp [intOf]; omega
            · obtain rfl : j = 4 := by omega
              have hma := mixAt_all b k l hl4
              obtain ⟨p, hp⟩ : ∃ p, p = 4 * k + l := ⟨_, rfl⟩
              rw [← hp] at hma hrel
              rw [hma]
              have hp16 : p < 16 := by omega
              obtain ⟨hrow, hbl⟩ := hrel
              have f1 := row_free0 hrow (j := p) hp16
              have c1 := row_byte0 hrow (j := p) (by rw [length_setsTo]; exact hp16)
              have HNE := Lib.hid (show MixRel w b (4 * k + (l + 1)) (wr.setCell ⟨w.heap.size, p, none⟩ (.int .u8 ((mixB b p).toNat : Int))) from by
                refine ⟨?_, hbl.setCell (Nat.le_refl _) _⟩
                rw [show 4 * k + (l + 1) = p + 1 by omega]
                exact row_set0 hrow (j := p) hp16 (c := mixB b p) rfl)
              have e1 : (4 : Int) * (k : Int) + (l : Int) = (p : Int) := by omega
              have e3 : (p : Int) < 16 := by omega
              generalize ((setsTo (mixB b) (zeros' 16) p)[p]'_).toNat = Y at c1
              generalize (mixB b p).toNat = S at *
              clear hrow hbl hp HREL hma
              go_wp2_with fail
              exact ⟨⟨l + 1, by omega, by go_num, HNE.out⟩, by simp [intOf]; omega⟩
        · obtain rfl : l = 4 := by omega
          go_wp2_with fail
          exact ⟨⟨k + 1, by omega, by go_num, HREL.out⟩, by simp [intOf]; omega⟩
    · obtain rfl : k = 4 := by omega
      have h16 : setsTo (mixB b) (zeros' 16) 16 = mixL b := setsTo_all _ _ rfl
      go_wp2_with fail
      go_ret
      exact ⟨_, _, rfl, by rw [← h16]; exact HREL.out.1, HREL.out.2⟩
end Go.Proofs.YtogpnlfbdhddmaaGreatDoor
