/- Numbers of eight bytes read; what Parse lays. -/
import Derived.Test.YtnhcabcpdlgdaaaDoorAdm3
import Derived.Test.YtnhcabcpdlgdaaaDoorFactsTail
namespace Go.Proofs.YtnhcabcpdlgdaaaDoor
open Go.RowKit

/-- One byte behind a number. -/
theorem or_byte {y c : Int} (hy : fits y) (h0 : y % 256 = 0) (h1 : 0 ≤ c) (h2 : c < 256) : bits .or .i64 y c = sig (y + c) := by
  unfold fits at hy
  show IntKind.i64.wrap ((BitVec.ofInt 64 y ||| BitVec.ofInt 64 c).toNat : Int) = _
  rw [BitVec.toNat_or]
  have e1 : (BitVec.ofInt 64 y).toNat = (y % 18446744073709551616).toNat := by rw [BitVec.toNat_ofInt]; rfl
  have e2 : (BitVec.ofInt 64 c).toNat = c.toNat := by rw [BitVec.toNat_ofInt]; congr 1; exact Int.emod_eq_of_lt h1 (by omega)
  rw [e1, e2, nat_join 8 _ _ (by omega) (by omega)]
  rw [IntKind.wrap_i64]
  unfold sig
  omega
theorem byte_more (l : List UInt8) (c : UInt8) : bits .or .i64 (wrap64 (numS l * 256)) (c.toNat : Int) = numS (l ++ [c]) := by
  have hc := u8_lt c
  have hw : wrap64 (numS l * 256) = sig (numS l * 256) := by unfold wrap64 sig; generalize numS l * 256 = x; omega
  rw [hw, or_byte (sig_fits _) (by unfold sig; omega) (by omega) (by omega), numS_snoc]
  unfold sig
  omega
theorem numS_nil : numS [] = 0 := by unfold numS; show sig 0 = 0; exact sig_id (by unfold fits; omega)
/-- The numbers, so far: k of them, and i bytes of the next. -/
def parCell (l : List UInt8) (k i j : Nat) : Int := if j < k then at8 l j else if j = k then numS ((l.drop (3 + 8 * k)).take i) else 0
def parCells (l : List UInt8) (k i : Nat) : Array Value := #[.int .i64 (parCell l k i 0), .int .i64 (parCell l k i 1), .int .i64 (parCell l k i 2), .int .i64 (parCell l k i 3), .int .i64 (parCell l k i 4)]
theorem par_at (l : List UInt8) (k i : Nat) (hk : k < 5) : (parCells l k i)[k]? = some (.int .i64 (numS ((l.drop (3 + 8 * k)).take i))) := by
  obtain rfl | rfl | rfl | rfl | rfl : k = 0 ∨ k = 1 ∨ k = 2 ∨ k = 3 ∨ k = 4 := by omega
  all_goals simp [parCells, parCell]
theorem par_set (l : List UInt8) (k i : Nat) (hk : k < 5) : (parCells l k i).setIfInBounds k (.int .i64 (numS ((l.drop (3 + 8 * k)).take (i + 1)))) = parCells l k (i + 1) := by
  obtain rfl | rfl | rfl | rfl | rfl : k = 0 ∨ k = 1 ∨ k = 2 ∨ k = 3 ∨ k = 4 := by omega
  all_goals simp [parCells, parCell]
theorem par_next (l : List UInt8) (k : Nat) (hk : k < 5) : parCells l k 8 = parCells l (k + 1) 0 := by
  obtain rfl | rfl | rfl | rfl | rfl : k = 0 ∨ k = 1 ∨ k = 2 ∨ k = 3 ∨ k = 4 := by omega
  all_goals simp [parCells, parCell, at8, numS_nil]
theorem par_zero (l : List UInt8) : parCells l 0 0 = #[.int .i64 0, .int .i64 0, .int .i64 0, .int .i64 0, .int .i64 0] := by simp [parCells, parCell, numS_nil]
theorem par_last (l : List UInt8) : parCells l 5 0 = #[.int .i64 (at8 l 0), .int .i64 (at8 l 1), .int .i64 (at8 l 2), .int .i64 (at8 l 3), .int .i64 (at8 l 4)] := by simp [parCells, parCell]
def zeroAdm : Array Value := #[.int .i64 0, .int .i64 0, .int .i64 0, .int .i64 0, .string ⟨#[]⟩, .int .i64 0, .int .i64 0, .int .i64 0, .int .i64 0]
/-- A new block of noughts, from N on. -/
def NewZ (N : Nat) (v : Value) (w : World) : Prop := ∃ g, v = .pointer (some ⟨g, 0, none⟩) ∧ N ≤ g ∧ Blk w g 38 zeroAdm
theorem st_newz (N : Nat) : Stable (NewZ N) := fun v w w' h g => by
  obtain ⟨b, e, hN, hb⟩ := h
  exact ⟨b, e, hN, hb.below g hb.lt⟩
theorem bv_getD (l : List UInt8) (j : Nat) (h : j < l.length) : (bv l)[j]? = some (.int .u8 ((l.getD j 0).toNat : Int)) := by
  rw [bv_at l j h]; simp [h]
theorem adm_store {wx : World} {g : Nat} (h : Blk wx g 38 zeroAdm) (x0 x1 x2 y0 : Int) (s : ByteArray) (y1 y2 y3 y4 : Int) :
    Blk (((((((((wx.setCell ⟨g, 0, none⟩ (.int .i64 x0)).setCell ⟨g, 1, none⟩ (.int .i64 x1)).setCell ⟨g, 2, none⟩ (.int .i64 x2)).setCell ⟨g, 3, none⟩ (.int .i64 y0)).setCell ⟨g, 4, none⟩ (.string s)).setCell ⟨g, 5, none⟩ (.int .i64 y1)).setCell ⟨g, 6, none⟩ (.int .i64 y2)).setCell ⟨g, 7, none⟩ (.int .i64 y3)).setCell ⟨g, 8, none⟩ (.int .i64 y4)) g 38 #[.int .i64 x0, .int .i64 x1, .int .i64 x2, .int .i64 y0, .string s, .int .i64 y1, .int .i64 y2, .int .i64 y3, .int .i64 y4] := by
  have e : (((((((((zeroAdm.setIfInBounds 0 (.int .i64 x0)).setIfInBounds 1 (.int .i64 x1)).setIfInBounds 2 (.int .i64 x2)).setIfInBounds 3 (.int .i64 y0)).setIfInBounds 4 (.string s)).setIfInBounds 5 (.int .i64 y1)).setIfInBounds 6 (.int .i64 y2)).setIfInBounds 7 (.int .i64 y3)).setIfInBounds 8 (.int .i64 y4)) = #[.int .i64 x0, .int .i64 x1, .int .i64 x2, .int .i64 y0, .string s, .int .i64 y1, .int .i64 y2, .int .i64 y3, .int .i64 y4] := by simp [zeroAdm]
  have h9 := (((((((((h.set 0 (.int .i64 x0)).set 1 (.int .i64 x1)).set 2 (.int .i64 x2)).set 3 (.int .i64 y0)).set 4 (.string s)).set 5 (.int .i64 y1)).set 6 (.int .i64 y2)).set 7 (.int .i64 y3)).set 8 (.int .i64 y4))
  rw [e] at h9
  exact h9
theorem adm_far {wx : World} {g b : Nat} {cs : Array Value} {t : TypeId} (h : Blk wx b t cs) (hg : b ≠ g) (x0 x1 x2 y0 : Int) (s : ByteArray) (y1 y2 y3 y4 : Int) :
    Blk (((((((((wx.setCell ⟨g, 0, none⟩ (.int .i64 x0)).setCell ⟨g, 1, none⟩ (.int .i64 x1)).setCell ⟨g, 2, none⟩ (.int .i64 x2)).setCell ⟨g, 3, none⟩ (.int .i64 y0)).setCell ⟨g, 4, none⟩ (.string s)).setCell ⟨g, 5, none⟩ (.int .i64 y1)).setCell ⟨g, 6, none⟩ (.int .i64 y2)).setCell ⟨g, 7, none⟩ (.int .i64 y3)).setCell ⟨g, 8, none⟩ (.int .i64 y4)) b t cs := (((((((((h.far (p := ⟨g, 0, none⟩) hg (.int .i64 x0)).far (p := ⟨g, 1, none⟩) hg (.int .i64 x1)).far (p := ⟨g, 2, none⟩) hg (.int .i64 x2)).far (p := ⟨g, 3, none⟩) hg (.int .i64 y0)).far (p := ⟨g, 4, none⟩) hg (.string s)).far (p := ⟨g, 5, none⟩) hg (.int .i64 y1)).far (p := ⟨g, 6, none⟩) hg (.int .i64 y2)).far (p := ⟨g, 7, none⟩) hg (.int .i64 y3)).far (p := ⟨g, 8, none⟩) hg (.int .i64 y4))
theorem adm_below {w wx : World} {g B : Nat} (h : Below B w wx) (hg : B ≤ g) (x0 x1 x2 y0 : Int) (s : ByteArray) (y1 y2 y3 y4 : Int) :
    Below B w (((((((((wx.setCell ⟨g, 0, none⟩ (.int .i64 x0)).setCell ⟨g, 1, none⟩ (.int .i64 x1)).setCell ⟨g, 2, none⟩ (.int .i64 x2)).setCell ⟨g, 3, none⟩ (.int .i64 y0)).setCell ⟨g, 4, none⟩ (.string s)).setCell ⟨g, 5, none⟩ (.int .i64 y1)).setCell ⟨g, 6, none⟩ (.int .i64 y2)).setCell ⟨g, 7, none⟩ (.int .i64 y3)).setCell ⟨g, 8, none⟩ (.int .i64 y4)) := (((((((((h.setCell (p := ⟨g, 0, none⟩) hg (.int .i64 x0)).setCell (p := ⟨g, 1, none⟩) hg (.int .i64 x1)).setCell (p := ⟨g, 2, none⟩) hg (.int .i64 x2)).setCell (p := ⟨g, 3, none⟩) hg (.int .i64 y0)).setCell (p := ⟨g, 4, none⟩) hg (.string s)).setCell (p := ⟨g, 5, none⟩) hg (.int .i64 y1)).setCell (p := ⟨g, 6, none⟩) hg (.int .i64 y2)).setCell (p := ⟨g, 7, none⟩) hg (.int .i64 y3)).setCell (p := ⟨g, 8, none⟩) hg (.int .i64 y4))
theorem adm_all {w wx : World} {g b B : Nat} {cs : Array Value} {t : TypeId} (h : Blk wx g 38 zeroAdm) (h2 : Blk wx b t cs) (h3 : Below B w wx) (hbg : b ≠ g) (hg : B ≤ g) (x0 x1 x2 y0 : Int) (s : ByteArray) (y1 y2 y3 y4 : Int) :
    Blk (((((((((wx.setCell ⟨g, 0, none⟩ (.int .i64 x0)).setCell ⟨g, 1, none⟩ (.int .i64 x1)).setCell ⟨g, 2, none⟩ (.int .i64 x2)).setCell ⟨g, 3, none⟩ (.int .i64 y0)).setCell ⟨g, 4, none⟩ (.string s)).setCell ⟨g, 5, none⟩ (.int .i64 y1)).setCell ⟨g, 6, none⟩ (.int .i64 y2)).setCell ⟨g, 7, none⟩ (.int .i64 y3)).setCell ⟨g, 8, none⟩ (.int .i64 y4)) g 38 #[.int .i64 x0, .int .i64 x1, .int .i64 x2, .int .i64 y0, .string s, .int .i64 y1, .int .i64 y2, .int .i64 y3, .int .i64 y4] ∧ Blk (((((((((wx.setCell ⟨g, 0, none⟩ (.int .i64 x0)).setCell ⟨g, 1, none⟩ (.int .i64 x1)).setCell ⟨g, 2, none⟩ (.int .i64 x2)).setCell ⟨g, 3, none⟩ (.int .i64 y0)).setCell ⟨g, 4, none⟩ (.string s)).setCell ⟨g, 5, none⟩ (.int .i64 y1)).setCell ⟨g, 6, none⟩ (.int .i64 y2)).setCell ⟨g, 7, none⟩ (.int .i64 y3)).setCell ⟨g, 8, none⟩ (.int .i64 y4)) b t cs ∧ Below B w (((((((((wx.setCell ⟨g, 0, none⟩ (.int .i64 x0)).setCell ⟨g, 1, none⟩ (.int .i64 x1)).setCell ⟨g, 2, none⟩ (.int .i64 x2)).setCell ⟨g, 3, none⟩ (.int .i64 y0)).setCell ⟨g, 4, none⟩ (.string s)).setCell ⟨g, 5, none⟩ (.int .i64 y1)).setCell ⟨g, 6, none⟩ (.int .i64 y2)).setCell ⟨g, 7, none⟩ (.int .i64 y3)).setCell ⟨g, 8, none⟩ (.int .i64 y4)) :=
  ⟨adm_store h x0 x1 x2 y0 s y1 y2 y3 y4, adm_far h2 hbg x0 x1 x2 y0 s y1 y2 y3 y4, adm_below h3 hg x0 x1 x2 y0 s y1 y2 y3 y4⟩
def ParRel (w : World) (l : List UInt8) (k i : Nat) (wr : World) : Prop :=
  Blk wr (w.heap.size + 1) 63 (parCells l k i) ∧ Blk wr w.heap.size 38 zeroAdm ∧ Below w.heap.size w wr
def ParOuter (w : World) (l : List UInt8) (s : Value) (wr : World) : Prop := ∃ k : Nat, k ≤ 5 ∧ s = .int .i64 k ∧ ParRel w l k 0 wr
def ParInner (w : World) (l : List UInt8) (k : Nat) (s : Value) (wr : World) : Prop := ∃ i : Nat, i ≤ 8 ∧ s = .int .i64 i ∧ ParRel w l k i wr

theorem par_step {w wr : World} {l : List UInt8} {k i : Nat} (hk : k < 5) (hi : i < 8) (h : 3 + 8 * k + i < l.length) (hblk : Blk wr (w.heap.size + 1) 63 (parCells l k i)) (hres : Blk wr w.heap.size 38 zeroAdm) (hb : Below w.heap.size w wr) :
    ParInner w l k (.int .i64 (i + 1)) (wr.setCell ⟨w.heap.size + 1, k, none⟩ (.int .i64 (bits .or .i64 (wrap64 (numS ((l.drop (3 + 8 * k)).take i) * 256)) (wrap64 (l[3 + 8 * k + i].toNat : Int))))) := by
  have hc := u8_lt l[3 + 8 * k + i]
  have hw : wrap64 (l[3 + 8 * k + i].toNat : Int) = (l[3 + 8 * k + i].toNat : Int) := by unfold wrap64; omega
  have ht : (l.drop (3 + 8 * k)).take (i + 1) = (l.drop (3 + 8 * k)).take i ++ [l[3 + 8 * k + i]] := by
    rw [List.take_succ_eq_append_getElem (by simp; omega)]
    simp
  rw [hw, byte_more, ← ht]
  refine ⟨i + 1, by omega, by congr 1, ?_, hres.far (by show w.heap.size ≠ w.heap.size + 1; omega) _, hb.setCell (by show w.heap.size ≤ w.heap.size + 1; omega) _⟩
  rw [← par_set l k i hk]
  exact hblk.set k _
set_option maxRecDepth 100000 in
set_option maxHeartbeats 4000000 in
theorem Parse_short (A : Option Addr) (n c : Nat) (l : List UInt8) (w : World) (hl : l.length = n) (h : n < 43) :
    Calls Tryd.prog 34 #[.slice A n c] w fun e w' => e = .returned (.tuple #[(parA l).val, .int .i64 (parE l)]) ∧ Below w.heap.size w w' := by
  have hA : parA l = Adm.none := if_neg (by omega)
  have hE : parE l = 4 := if_neg (by omega)
  rw [hA, hE]
  clear hA hE hl
  go_enter Tryd.func34, Tryd.ntmps34
  go_wp2_with fail
  refine bodyPost_ret (v := .tuple #[Adm.none.val, .int .i64 4]) (by simp [results, Tryd.results34, go_sem, Adm.none, Adm.val]; done) rfl ⟨rfl, ?_⟩
  first | exact (Below.refl _ _).alloc (Nat.le_refl _) _ | exact ((Below.refl _ _).alloc (Nat.le_refl _) _).setCells _ | skip

end Go.Proofs.YtnhcabcpdlgdaaaDoor
