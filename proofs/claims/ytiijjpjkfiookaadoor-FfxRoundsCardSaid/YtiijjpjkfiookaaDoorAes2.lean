/- A key of aes in memory; THE WALK of its maps. -/
import Derived.Test.YtiijjpjkfiookaaDoorAes1
namespace Go.Proofs.YtiijjpjkfiookaaDoor
open Go.RowKit

theorem amid_at (pre xs post : List Value) (j : Nat) (h : j < xs.length) : (pre ++ xs ++ post).toArray[pre.length + j]? = xs[j]? := by
  rw [List.getElem?_toArray, List.append_assoc, List.getElem?_append_right (by omega), show pre.length + j - pre.length = j by omega, List.getElem?_append_left h]
theorem amid_set (pre xs post : List Value) (j : Nat) (u : Value) (h : j < xs.length) : (pre ++ xs ++ post).toArray.setIfInBounds (pre.length + j) u = (pre ++ xs.set j u ++ post).toArray := by
  rw [List.setIfInBounds_toArray, List.append_assoc, List.set_append_right _ _ (by omega), show pre.length + j - pre.length = j by omega, List.set_append_left _ _ h, List.append_assoc]
/-- Its cells: its bytes, the Once, the two maps, the round keys. -/
def akh (k : Value) (d s : Int) : List Value := [k, Value.int .u32 d, Value.int .i32 s, Value.int .u32 0]
def ak (k : Value) (d s : Int) (x y : List UInt8) (r : Value) : List Value := akh k d s ++ (bv x ++ (bv y ++ [r]))
theorem ak_key (k : Value) (d s : Int) (x y : List UInt8) (r : Value) : (ak k d s x y r).toArray[0]? = some k := rfl
theorem ak_d (k : Value) (d s : Int) (x y : List UInt8) (r : Value) : (ak k d s x y r).toArray[1]? = some (.int .u32 d) := rfl
theorem ak_s (k : Value) (d s : Int) (x y : List UInt8) (r : Value) : (ak k d s x y r).toArray[2]? = some (.int .i32 s) := rfl
theorem ak_setd (k : Value) (d s d' : Int) (x y : List UInt8) (r : Value) : (ak k d s x y r).toArray.setIfInBounds 1 (.int .u32 d') = (ak k d' s x y r).toArray := by simp [ak, akh]
theorem ak_sets (k : Value) (d s s' : Int) (x y : List UInt8) (r : Value) : (ak k d s x y r).toArray.setIfInBounds 2 (.int .i32 s') = (ak k d s' x y r).toArray := by simp [ak, akh]
theorem ak_x (k : Value) (d s : Int) (x y : List UInt8) (r : Value) : ak k d s x y r = akh k d s ++ bv x ++ (bv y ++ [r]) := by simp [ak]
theorem ak_y (k : Value) (d s : Int) (x y : List UInt8) (r : Value) : ak k d s x y r = (akh k d s ++ bv x) ++ bv y ++ [r] := by simp [ak]
theorem ak_r (k : Value) (d s : Int) (x y : List UInt8) (r : Value) : ak k d s x y r = (akh k d s ++ bv x ++ bv y) ++ [r] ++ [] := by simp [ak]
theorem ak_xat (k : Value) (d s : Int) (x y : List UInt8) (r : Value) (i : Nat) (h : i < x.length) : (ak k d s x y r).toArray[4 + i]? = some (u8v (x.getD i 0)) := by
  rw [ak_x]
  have := amid_at (akh k d s) (bv x) (bv y ++ [r]) i (by rw [length_bv]; exact h)
  rw [bv_at x i h] at this
  refine Eq.trans this ?_
  simp [h]
theorem ak_yat (k : Value) (d s : Int) (x y : List UInt8) (r : Value) (i : Nat) (hx : x.length = 256) (h : i < y.length) : (ak k d s x y r).toArray[260 + i]? = some (u8v (y.getD i 0)) := by
  rw [ak_y]
  have := amid_at (akh k d s ++ bv x) (bv y) [r] i (by rw [length_bv]; exact h)
  rw [bv_at y i h, show (akh k d s ++ bv x).length = 260 by rw [List.length_append, length_bv, hx]; rfl] at this
  refine Eq.trans this ?_
  simp [h]
theorem ak_rat (k : Value) (d s : Int) (x y : List UInt8) (r : Value) (hx : x.length = 256) (hy : y.length = 256) : (ak k d s x y r).toArray[516]? = some r := by
  rw [ak_r]
  have := amid_at (akh k d s ++ bv x ++ bv y) [r] [] 0 (by simp)
  rw [show (akh k d s ++ bv x ++ bv y).length = 516 by rw [List.length_append, List.length_append, length_bv, length_bv, hx, hy]; rfl] at this
  exact this
theorem ak_setx (k : Value) (d s : Int) (x y : List UInt8) (r : Value) (i : Nat) (c : UInt8) (h : i < x.length) : (ak k d s x y r).toArray.setIfInBounds (4 + i) (u8v c) = (ak k d s (x.set i c) y r).toArray := by
  rw [ak_x, ak_x, bv_set]
  exact amid_set (akh k d s) (bv x) _ i _ (by rw [length_bv]; exact h)
theorem ak_sety (k : Value) (d s : Int) (x y : List UInt8) (r : Value) (i : Nat) (c : UInt8) (hx : x.length = 256) (h : i < y.length) : (ak k d s x y r).toArray.setIfInBounds (260 + i) (u8v c) = (ak k d s x (y.set i c) r).toArray := by
  rw [ak_y, ak_y, bv_set]
  have := amid_set (akh k d s ++ bv x) (bv y) [r] i (u8v c) (by rw [length_bv]; exact h)
  rwa [show (akh k d s ++ bv x).length = 260 by rw [List.length_append, length_bv, hx]; rfl] at this
theorem ak_setr (k : Value) (d s : Int) (x y : List UInt8) (r r' : Value) (hx : x.length = 256) (hy : y.length = 256) : (ak k d s x y r).toArray.setIfInBounds 516 r' = (ak k d s x y r').toArray := by
  rw [ak_r, ak_r]
  have := amid_set (akh k d s ++ bv x ++ bv y) [r] [] 0 r' (by simp)
  rwa [show (akh k d s ++ bv x ++ bv y).length + 0 = 516 by rw [List.length_append, List.length_append, length_bv, length_bv, hx, hy]; rfl] at this
/-- The map as a row. -/
def sbL : List UInt8 := (List.range 256).map fun i => sb (UInt8.ofNat i)
theorem length_sbL : sbL.length = 256 := by simp [sbL]
theorem sbL_at (i : Nat) (h : i < 256) : sbL.getD i 0 = sb (UInt8.ofNat i) := by simp [sbL, h]
theorem box_of {w : World} {kb : Nat} {t : TypeId} {k : Value} {d s : Int} {y : List UInt8} {r : Value} (h : Blk w kb t (ak k d s sbL y r).toArray) : BoxAt w kb 4 := fun i hi => by
  rw [Blk.cell h, ak_xat _ _ _ _ _ _ _ (by rw [length_sbL]; exact hi), sbL_at i hi]
/-- Behind i bytes of the maps. -/
def MapsRel (w : World) (kb : Nat) (t : TypeId) (k : Value) (x : List UInt8) (r : Value) (i : Value) (wr : World) : Prop :=
  ∃ (j : Nat) (y : List UInt8), j ≤ 256 ∧ i = .int .i64 j ∧ y.length = 256 ∧ Blk wr kb t (ak k 0 1 (setsTo (fun i => sb (UInt8.ofNat i)) x j) y r).toArray ∧ Grew (· = kb) w wr
theorem MapsRel.drew {w wr : World} {kb : Nat} {t : TypeId} {k : Value} {x : List UInt8} {r : Value} {i : Value} (h : MapsRel w kb t k x r i wr) : MapsRel w kb t k x r i wr.drew := by
  obtain ⟨j, y, h1, h2, h3, h4, h5⟩ := h
  exact ⟨j, y, h1, h2, h3, h4.drew, h5.drew⟩
set_option maxRecDepth 100000 in
set_option maxHeartbeats 2000000 in
theorem maps_any (kb : Nat) (t : TypeId) (k r : Value) (x y : List UInt8) (w : World) (hb : Blk w kb t (ak k 0 1 x y r).toArray) (hx : x.length = 256) (hy : y.length = 256) :
    Calls Tryd.prog 75 #[.pointer (some ⟨kb, 0, none⟩)] w fun e w' => e = .returned (.tuple #[]) ∧ ∃ y', y'.length = 256 ∧ Blk w' kb t (ak k 0 1 sbL y' r).toArray ∧ Grew (· = kb) w w' := by
  have HB := Lib.hid hb
  have hkl := hb.lt
  clear hb
  go_enter Tryd.func75, Tryd.ntmps75
  go_wp2_with fail
  go_loopw [2, 3, 4] (fun _ _ i wr => MapsRel w kb t k x r i wr) (fun _ _ i _ => 256 - (intOf i).toNat)
  case atStart => exact ⟨0, y, by omega, rfl, hy, HB.out, Grew.refl _ _⟩
  case round =>
    obtain ⟨j, y2, hj, rfl, hy2, hbk, hgr⟩ := hrel
    by_cases hlt : j < 256
    · obtain ⟨c, hc⟩ : ∃ c, c = UInt8.ofNat j := ⟨_, rfl⟩
      have hcj : c.toNat = j := by rw [hc]; exact u8_of hlt
      have hsl : (setsTo (fun i => sb (UInt8.ofNat i)) x j).length = 256 := by rw [length_setsTo, hx]
      have hX := (sb c).toNat_lt
      have c1 := (Blk.cell hbk (4 + j)).trans (ak_xat _ _ _ _ _ _ j (by omega))
      have c2 := (Blk.cell hbk (260 + (sb c).toNat)).trans (ak_yat _ _ _ _ _ _ (sb c).toNat hsl (by omega))
      have f1 := Blk.frozen hbk (4 + j)
      have f2 := Blk.frozen hbk (260 + (sb c).toNat)
      have hb2 := (hbk.set (4 + j) (u8v (sb c))).set (260 + (sb c).toNat) (u8v c)
      rw [ak_setx _ _ _ _ _ _ _ _ (by omega), ak_sety _ _ _ _ _ _ _ _ (by rw [List.length_set]; exact hsl) (by omega)] at hb2
      have hne : MapsRel w kb t k x r (.int .i64 ((j : Int) + 1)) ((wr.setCell ⟨kb, 4 + j, none⟩ (u8v (sb c))).setCell ⟨kb, 260 + (sb c).toNat, none⟩ (u8v c)) := ⟨j + 1, y2.set (sb c).toNat c, by omega, by go_num, by rw [List.length_set, hy2], by rw [hc] at hb2 ⊢; exact hb2, (hgr.set (p := ⟨kb, 4 + j, none⟩) (.inl rfl) _).set (p := ⟨kb, 260 + (sb c).toNat, none⟩) (.inl rfl) _⟩
      have HNE := Lib.hid hne
      have HBX := Lib.hid (fun w => fBox_any c w)
      rw [hcj] at HBX
      have hj256 : (j : Int) % 256 = j := by omega
      unfold u8v at c1 c2 HNE
      rw [hcj] at HNE
      clear hbk hgr hb2 hne hc hsl hcj
      generalize (sb c).toNat = X at c2 f2 HNE hX HBX
      generalize ((setsTo (fun i => sb (UInt8.ofNat i)) x j).getD j 0).toNat = Y1 at c1
      generalize (y2.getD X 0).toNat = Y2 at c2
      go_wp2_with fail
      refine (HBX.out _).mono ?_
      rintro e w1 ⟨rfl, rfl⟩
      go_wp2_with fail
      go_region
      go_wp2_with fail
      go_roundw
      case rel => exact HNE.out.drew
      case measure => simp [intOf]; omega
    · obtain rfl : j = 256 := by omega
      rw [setsTo_all _ x hx] at hbk
      have HBK := Lib.hid hbk
      have HGR := Lib.hid hgr
      clear hbk hgr
      go_wp2_with fail
      go_end0
      exact ⟨rfl, y2, hy2, HBK.out, HGR.out⟩
end Go.Proofs.YtiijjpjkfiookaaDoor
