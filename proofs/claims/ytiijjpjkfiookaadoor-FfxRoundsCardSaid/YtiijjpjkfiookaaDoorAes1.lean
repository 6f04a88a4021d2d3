/- THE WALKS of aes's blocks: lay, twice, mix, turn. -/
import Derived.Test.YtiijjpjkfiookaaDoorField
import Derived.Test.YtiijjpjkfiookaaDoorClone
import Derived.Deep.DeepCutAuto
import Derived.Deep.WholeRow
import Derived.Deep.RegionHeld
import Derived.Laws.Cover3
import Derived.StillTailTactics
import Derived.Deep.LoopGhost
namespace Go.Proofs.YtiijjpjkfiookaaDoor
open Go.RowKit

/-! ### cells set one by one -/
def setsTo (f : Nat → UInt8) (l : List UInt8) : Nat → List UInt8
  | 0 => l
  | j + 1 => (setsTo f l j).set j (f j)
theorem length_setsTo (f : Nat → UInt8) (l : List UInt8) : ∀ j, (setsTo f l j).length = l.length
  | 0 => rfl
  | j + 1 => by show ((setsTo f l j).set j _).length = _; rw [List.length_set, length_setsTo f l j]
theorem setsTo_from (f : Nat → UInt8) (l : List UInt8) : ∀ j t, j ≤ t → (setsTo f l j)[t]? = l[t]?
  | 0, _, _ => rfl
  | j + 1, t, h => by
    show ((setsTo f l j).set j _)[t]? = _
    rw [List.getElem?_set_ne (by omega)]
    exact setsTo_from f l j t (by omega)
theorem setsTo_below (f : Nat → UInt8) (l : List UInt8) : ∀ j t, t < j → j ≤ l.length → (setsTo f l j)[t]? = some (f t)
  | 0, _, h, _ => absurd h (by omega)
  | j + 1, t, h, hl => by
    show ((setsTo f l j).set j _)[t]? = _
    by_cases e : t = j
    · subst e
      rw [List.getElem?_set_self (by rw [length_setsTo]; omega)]
    · rw [List.getElem?_set_ne (by omega)]
      exact setsTo_below f l j t (by omega) (by omega)
theorem setsTo_all (f : Nat → UInt8) (l : List UInt8) {n : Nat} (h : l.length = n) : setsTo f l n = (List.range n).map f := by
  apply List.ext_getElem?
  intro t
  by_cases ht : t < n
  · rw [setsTo_below f l n t ht (by omega)]; simp [ht]
  · rw [List.getElem?_eq_none (by rw [length_setsTo]; omega), List.getElem?_eq_none (by simp; omega)]
theorem map_xorL {l k : List UInt8} (hl : l.length = 16) (hk : k.length = 16) : (List.range 16).map (fun i => l.getD i 0 ^^^ k.getD i 0) = xorL l k := by
  apply List.ext_getElem?
  intro t
  by_cases ht : t < 16
  · rw [getD_xorL l k t (by omega) (by omega)]
    simp [ht, hl, hk]
  · rw [List.getElem?_eq_none (by simp; omega), List.getElem?_eq_none (by rw [length_xorL]; omega)]

/-! ### a block of bytes known whole -/
theorem bvA_at (l : List UInt8) (j : Nat) (h : j < l.length) : (bv l).toArray[j]? = some (u8v (l.getD j 0)) := by
  rw [List.getElem?_toArray, bv_at l j h]
  simp [h]
theorem bvA_set (l : List UInt8) (j : Nat) (c : UInt8) : (bv l).toArray.setIfInBounds j (u8v c) = (bv (l.set j c)).toArray := by
  rw [bv_set, List.setIfInBounds_toArray]
/-- A block of the bytes l. -/
abbrev Bk (w : World) (g : Nat) (t : TypeId) (l : List UInt8) : Prop := Blk w g t (bv l).toArray
theorem Bk.at_ {w : World} {g : Nat} {t : TypeId} {l : List UInt8} (h : Bk w g t l) (j : Nat) (hj : j < l.length) : w.cell? ⟨g, j, none⟩ = some (u8v (l.getD j 0)) := (Blk.cell h j).trans (bvA_at l j hj)
theorem Bk.set_ {w : World} {g : Nat} {t : TypeId} {l : List UInt8} (h : Bk w g t l) (j : Nat) (c : UInt8) : Bk (w.setCell ⟨g, j, none⟩ (u8v c)) g t (l.set j c) := by
  have := Blk.set h j (u8v c); rwa [bvA_set] at this
/-- Behind j places. -/
def SetRel (w : World) (g : Nat) (t : TypeId) (f : Nat → UInt8) (l : List UInt8) (X : World → Prop) (i : Value) (wr : World) : Prop :=
  ∃ j : Nat, j ≤ 16 ∧ i = .int .i64 j ∧ Bk wr g t (setsTo f l j) ∧ Grew (· = g) w wr ∧ X wr
theorem SetRel.drew {w wr : World} {g : Nat} {t : TypeId} {f : Nat → UInt8} {l : List UInt8} {X : World → Prop} {i : Value} (h : SetRel w g t f l X i wr) (hX : ∀ w, X w → X w.drew) : SetRel w g t f l X i wr.drew := by
  obtain ⟨j, h1, h2, h3, h4, h5⟩ := h
  exact ⟨j, h1, h2, h3.drew, h4.drew, hX _ h5⟩
theorem getD_setsTo_at {f : Nat → UInt8} {l : List UInt8} {j : Nat} : (setsTo f l j).getD j 0 = l.getD j 0 := by
  rw [List.getD_eq_getElem?_getD, setsTo_from f l j j (Nat.le_refl _), List.getD_eq_getElem?_getD]

/-- What lay, mix and turn leave. -/
def BlkOut (g : Nat) (t : TypeId) (l : List UInt8) (w : World) (e : Ending) (w' : World) : Prop := e = .returned (.tuple #[]) ∧ Bk w' g t l ∧ Grew (· = g) w w'
set_option maxRecDepth 100000 in
set_option maxHeartbeats 1000000 in
theorem lay_any (g : Nat) (t : TypeId) (l k : List UInt8) (w : World) (hb : Bk w g t l) (hl : l.length = 16) (hk : k.length = 16) :
    Calls Tryd.prog 68 #[.pointer (some ⟨g, 0, none⟩), .agg (bv k).toArray] w (BlkOut g t (xorL l k) w) := by
  have HB := Lib.hid hb
  have hgl := hb.lt
  have HM := Lib.hid (map_xorL hl hk)
  have hks : (bv k).toArray.size = 16 := by simp [length_bv, hk]
  clear hb
  obtain ⟨ka, hka⟩ : ∃ ka, ka = (bv k).toArray := ⟨_, rfl⟩
  have HKA := Lib.hid hka
  rw [← hka] at hks
  rw [← hka]
  clear hka
  go_enter Tryd.func68, Tryd.ntmps68
  go_wp2_with fail
  go_loopw [4, 5] (fun _ i wr => SetRel w g t (fun i => l.getD i 0 ^^^ k.getD i 0) l (fun wr => Bk wr w.heap.size 108 k) i wr) (fun _ i _ => 16 - (intOf i).toNat)
  case atStart => exact ⟨0, by omega, rfl, HB.out.alloc _, Grew.of_new ((Below.refl _ _).alloc (Nat.le_refl _) _), by rw [HKA.out]; exact Blk.new _ _ _⟩
  case round =>
    obtain ⟨j, hj, rfl, hbk, hgr, hkk⟩ := hrel
    by_cases hlt : j < 16
    · have c1 := Bk.at_ hbk j (by rw [length_setsTo]; omega)
      rw [getD_setsTo_at] at c1
      have c2 := Bk.at_ hkk j (by omega)
      have f1 := Blk.frozen hbk j
      have hne : SetRel w g t (fun i => l.getD i 0 ^^^ k.getD i 0) l (fun wr => Bk wr w.heap.size 108 k) (.int .i64 ((j : Int) + 1)) _ :=
        ⟨j + 1, by omega, by go_num, Bk.set_ hbk j _, hgr.set (p := ⟨g, j, none⟩) (.inl rfl) _, hkk.far (by show w.heap.size ≠ g; omega) _⟩
      have HNE := Lib.hid hne
      have e1 := bx_xor (l.getD j 0) (k.getD j 0)
      clear hne hbk hgr hkk
      unfold u8v at c1 c2 HNE
      generalize ((l.getD j 0).toNat : Int) = X at c1 e1
      generalize ((k.getD j 0).toNat : Int) = Y at c2 e1
      generalize ((l.getD j 0 ^^^ k.getD j 0).toNat : Int) = Z at HNE e1
      go_wp2_with fail
      go_region
      go_wp2_with fail
      go_roundw
      case rel => exact HNE.out.drew fun _ h => h.drew
      case measure => simp [intOf]; omega
    · obtain rfl : j = 16 := by omega
      rw [setsTo_all _ l hl, HM.out] at hbk
      have HBK := Lib.hid hbk
      have HGR := Lib.hid hgr
      clear hbk hgr hkk
      go_wp2_with fail
      go_end0
      exact ⟨rfl, HBK.out, HGR.out⟩
/-- The map's bytes stand in block kb from cell o on. -/
def BoxAt (w : World) (kb o : Nat) : Prop := ∀ i, i < 256 → w.cell? ⟨kb, o + i, none⟩ = some (u8v (sb (UInt8.ofNat i)))
/-! ### arrays out of cells, and into new ones -/
section
variable {P : Program}
theorem run_load_cells (w : World) (b o : Nat) (ty : TypeId) (cs : Array Value) (d : TypeDesc) (hc : ∀ j u, cs[j]? = some u → w.cell? ⟨b, o + j, none⟩ = some u)
    (hu : P.underlying ty = some d) (hd : (match d with | .struct _ | .array _ _ => true | _ => false) = true) (hi : (P.info? ty).map (·.size) = some cs.size) :
    (loadVar ty ⟨b, o, none⟩).run P w = .ok (.agg cs) w := by
  have hl : (loadCells ⟨b, o, none⟩ cs.toList.length).run P w = .ok cs.toList.toArray w :=
    run_loadCells_list (P := P) w ⟨b, o, none⟩ cs.toList (fun j v hv => by
      have hadd : (⟨b, o, none⟩ : Addr).add j = ⟨b, o + j, none⟩ := by unfold Addr.add; split <;> simp_all
      rw [hadd]
      exact hc j v (by simpa using hv))
  cases hq : P.info? ty with
  | none => simp [hq] at hi
  | some i =>
    have hs : i.size = cs.size := by simpa [hq] using hi
    have hagg : (isAgg ty).run P w = .ok true w := by
      unfold isAgg
      rw [Sem.run_bind, run_underlying hu w]
      cases d <;> simp_all
    simp only [Array.length_toList, Array.toArray_toList] at hl
    simp [loadVar, Sem.run_bind, hagg, sizeOf, typeInfo, hq, hs, hl]
theorem wpList_load_cells {ops : Array Oper} {rest : List Oper} {o : Oper} {a : Act} {w : World} {Q : Exit → Act → World → Prop} (hgd : o.guard = none) (ty : TypeId) (x : Operand) (ho : o.op = .load ty x)
    (b off : Nat) (hx : a.eval x = .pointer (some ⟨b, off, none⟩)) (cs : Array Value) (d : TypeDesc) (hc : ∀ j u, cs[j]? = some u → w.cell? ⟨b, off + j, none⟩ = some u)
    (hu : P.underlying ty = some d) (hd : (match d with | .struct _ | .array _ _ => true | _ => false) = true) (hi : (P.info? ty).map (·.size) = some cs.size)
    (h : wpList P ops Q rest (a.put o.dst (.agg cs)) w) : wpList P ops Q (o :: rest) a w :=
  wpList_plain hgd fun _ hK => by
    unfold Oper.wp execOp
    simp only [ho, hx, Instr.loadAt, Instr.sureAddr, Sem.run_bind, Sem.run_pure, Result.andThen_ok, run_load_cells w b off ty cs d hc hu hd hi]
    exact hK _ _ h
/-- A whole array into a block that has just been made. -/
theorem wpList_store_new {ops : Array Oper} {rest : List Oper} {o : Oper} {a : Act} {w : World} {Q : Exit → Act → World → Prop} (hgd : o.guard = none) (ty : TypeId) (x y : Operand) (ho : o.op = .store ty x y)
    (t : TypeId) (old cells : Array Value) (hx : a.eval x = .pointer (some ⟨w.heap.size, 0, none⟩)) (hy : a.eval y = .agg cells)
    (hi : (P.info? ty).map (·.size) = some cells.size) (hold : old.size = cells.size) (h1 : cells.all (·.oneCell') = true)
    (h : wpList P ops Q rest (a.put o.dst undef) (w.alloc (.cells cells t))) : wpList P ops Q (o :: rest) a (w.alloc (.cells old t)) :=
  wpList_store_row hgd ty x y ho w.heap.size cells hx hy t old (heap_alloc_last w _) hi hold h1 (by rw [World.setRow_alloc_new]; exact h)
end
theorem bvA_size (l : List UInt8) : (bv l).toArray.size = l.length := by simp [length_bv]
theorem bvA_one (l : List UInt8) : (bv l).toArray.all (·.oneCell') = true := by
  rw [List.all_toArray, List.all_eq_true]; exact fun u hu => bv_one l u hu
theorem block_info {l : List UInt8} (h : l.length = 16) : (Tryd.prog.info? 108).map (·.size) = some (bv l).toArray.size := by
  rw [bvA_size, h]; kernel_rfl
theorem quad_info {l : List UInt8} (h : l.length = 4) : (Tryd.prog.info? 115).map (·.size) = some (bv l).toArray.size := by
  rw [bvA_size, h]; kernel_rfl
theorem Bk.cells {w : World} {g : Nat} {t : TypeId} {l : List UInt8} (h : Bk w g t l) : ∀ j u, (bv l).toArray[j]? = some u → w.cell? ⟨g, 0 + j, none⟩ = some u := by
  intro j u hj; rw [Nat.zero_add, Blk.cell h j]; exact hj
set_option maxRecDepth 100000 in
set_option maxHeartbeats 1000000 in
theorem turn_any (g kb o : Nat) (t : TypeId) (l : List UInt8) (w : World) (hb : Bk w g t l) (hl : l.length = 16) (hx : BoxAt w kb o) (hk : kb < w.heap.size) (hne : kb ≠ g) :
    Calls Tryd.prog 69 #[.pointer (some ⟨g, 0, none⟩), .pointer (some ⟨kb, o, none⟩)] w (BlkOut g t (turnL l) w) := by
  have HB := Lib.hid hb
  have HX := Lib.hid hx
  have hgl := hb.lt
  have HC := Lib.hid (Bk.cells hb)
  have HI := Lib.hid (block_info hl)
  have H1 := Lib.hid (bvA_one l)
  have HS := Lib.hid (show (16 : Nat) = (bv l).toArray.size by rw [bvA_size, hl])
  clear hb hx
  obtain ⟨ka, hka⟩ : ∃ ka, ka = (bv l).toArray := ⟨_, rfl⟩
  have HKA := Lib.hid hka
  rw [← hka] at HC HI H1 HS
  clear hka
  go_enter Tryd.func69, Tryd.ntmps69
  go_wp2_with (first
    | (refine wpList_load_cells rfl 108 (.tmp 7) rfl g 0 rfl ka _ HC.out Tryd.underlying108 rfl HI.out ?_)
    | (refine wpList_store_new rfl 108 (.tmp 4) (.tmp 8) rfl _ _ ka rfl rfl HI.out HS.out H1.out ?_))
  go_loopw [5, 9] (fun _ i wr => SetRel w g t (fun i => sb (l.getD (trn i) 0)) l (fun wr => Bk wr w.heap.size 108 l ∧ BoxAt wr kb o) i wr) (fun _ i _ => 16 - (intOf i).toNat)
  case atStart => exact ⟨0, by omega, rfl, HB.out.alloc _, Grew.of_new ((Below.refl _ _).alloc (Nat.le_refl _) _), by rw [HKA.out]; exact Blk.new _ _ _, fun i hi => (World.cell?_alloc_lt _ _ _ hk).trans (HX.out i hi)⟩
  case round =>
    obtain ⟨j, hj, rfl, hbk, hgr, hkk, hbx⟩ := hrel
    by_cases hlt : j < 16
    · have htr : trn j < 16 := Nat.mod_lt _ (by decide)
      have c2 := Bk.at_ hkk (trn j) (by omega)
      have hxl := (l.getD (trn j) 0).toNat_lt
      have c3 := hbx (l.getD (trn j) 0).toNat hxl
      rw [UInt8.ofNat_toNat] at c3
      have c1 := Bk.at_ hbk j (by rw [length_setsTo]; omega)
      have f1 := Blk.frozen hbk j
      have hne : SetRel w g t (fun i => sb (l.getD (trn i) 0)) l (fun wr => Bk wr w.heap.size 108 l ∧ BoxAt wr kb o) (.int .i64 ((j : Int) + 1)) _ :=
        ⟨j + 1, by omega, by go_num, Bk.set_ hbk j _, hgr.set (p := ⟨g, j, none⟩) (.inl rfl) _, hkk.far (by show w.heap.size ≠ g; omega) _, fun i hi => (World.cell?_setCell_far _ _ _ _ (by show g ≠ kb; omega)).trans (hbx i hi)⟩
      have HNE := Lib.hid hne
      have e0 : ((j : Int)).tmod 4 = (j : Int) % 4 := Int.tmod_eq_emod_of_nonneg (by omega)
      have e1 : (((j : Int) + 4 * ((j : Int) % 4)).tmod 16) = (trn j : Nat) := by rw [Int.tmod_eq_emod_of_nonneg (by omega)]; unfold trn; omega
      have e2 : (((j : Int) + 4 * ((j : Int) % 4)) % 16) = (trn j : Nat) := by unfold trn; omega
      clear hne hbk hgr hkk hbx
      unfold u8v at c1 c2 c3 HNE
      generalize ((setsTo (fun i => sb (l.getD (trn i) 0)) l j).getD j 0).toNat = Y at c1
      generalize (l.getD (trn j) 0).toNat = X at c2 c3 hxl
      generalize ((sb (l.getD (trn j) 0)).toNat : Int) = Z at c3 HNE
      go_wp2_with fail
      go_region
      go_wp2_with fail
      go_roundw
      case rel => exact HNE.out.drew fun _ h => ⟨h.1.drew, fun i hi => h.2 i hi⟩
      case measure => simp [intOf]; omega
    · obtain rfl : j = 16 := by omega
      rw [setsTo_all _ l hl] at hbk
      have HBK := Lib.hid hbk
      have HGR := Lib.hid hgr
      clear hbk hgr hkk hbx
      go_wp2_with fail
      go_end0
      exact ⟨rfl, HBK.out, HGR.out⟩

theorem mul2 (a : UInt8) : mulG a 2 = xt a := by
  have e : ∀ n, n < 256 → mulG (UInt8.ofNat n) 2 = xt (UInt8.ofNat n) := by decide +kernel
  have h := e a.toNat a.toNat_lt
  rwa [UInt8.ofNat_toNat] at h
theorem atwice_any (a : UInt8) (w : World) : Calls Tryd.prog 77 #[.int .u8 (a.toNat : Int)] w fun e w' => e = .returned (.int .u8 ((xt a).toNat : Int)) ∧ w = w' := by
  have HM := Lib.hid (mul2 a)
  have h2 : ((2 : UInt8).toNat : Int) = 2 := rfl
  go_enter Tryd.func77, Tryd.ntmps77
  go_wp2_with fail
  have hc := Lib.hid (fMul_any a 2 w)
  rw [h2] at hc
  refine hc.out.mono ?_
  rw [HM.out]
  rintro e w1 ⟨rfl, rfl⟩
  clear h2 hc
  go_wp2_with fail
  go_ret
  exact ⟨rfl, rfl⟩
/-- A column. -/
def colL (l : List UInt8) (q : Nat) : List UInt8 := [l.getD (4 * q) 0, l.getD (4 * q + 1) 0, l.getD (4 * q + 2) 0, l.getD (4 * q + 3) 0]
theorem colL_at (l : List UInt8) (q : Nat) {r : Nat} (h : r < 4) : (colL l q).getD r 0 = l.getD (4 * q + r) 0 := by
  have : r = 0 ∨ r = 1 ∨ r = 2 ∨ r = 3 := by omega
  rcases this with rfl | rfl | rfl | rfl <;> rfl
def MixIn (w : World) (g : Nat) (t : TypeId) (l : List UInt8) (q xb : Nat) (i : Value) (k : Nat) (wr : World) : Prop :=
  ∃ r : Nat, r ≤ 4 ∧ k = 4 - r ∧ i = .int .i64 r ∧ Bk wr g t (setsTo (mixB l) l (4 * q + r)) ∧ Bk wr xb 115 (colL l q) ∧ Grew (· = g) w wr
def MixOut (w : World) (g : Nat) (t : TypeId) (l : List UInt8) (c : Value) (k : Nat) (wr : World) : Prop :=
  ∃ q : Nat, q ≤ 4 ∧ k = 4 - q ∧ c = .int .i64 (4 * q : Nat) ∧ Bk wr g t (setsTo (mixB l) l (4 * q)) ∧ Grew (· = g) w wr
theorem MixIn.drew {w wr : World} {g : Nat} {t : TypeId} {l : List UInt8} {q xb : Nat} {i : Value} {k : Nat} (h : MixIn w g t l q xb i k wr) (n : Nat) : MixIn w g t l q xb i k (wr.drewN n) := by
  obtain ⟨r, h1, h2, h3, h4, h5, h6⟩ := h
  exact ⟨r, h1, h2, h3, h4.drewN n, h5.drewN n, h6.drewN n⟩
theorem mix_at (l : List UInt8) (q : Nat) {r : Nat} (h : r < 4) (al : UInt8) (hal : al = ((((colL l q).getD 0 0 ^^^ (colL l q).getD 1 0) ^^^ (colL l q).getD 2 0) ^^^ (colL l q).getD 3 0)) :
    mixB l (4 * q + r) = (colL l q).getD r 0 ^^^ (al ^^^ xt ((colL l q).getD r 0 ^^^ (colL l q).getD ((r + 1) % 4) 0)) := by
  unfold mixB
  rw [hal, show (4 * q + r) / 4 = q by omega, show (4 * q + r) % 4 = r by omega, colL_at l q h, colL_at l q (show (r + 1) % 4 < 4 by omega), colL_at l q (show 0 < 4 by omega), colL_at l q (show 1 < 4 by omega), colL_at l q (show 2 < 4 by omega), colL_at l q (show 3 < 4 by omega)]
  rfl
set_option maxRecDepth 100000 in
set_option maxHeartbeats 4000000 in
theorem mix_any (g : Nat) (t : TypeId) (l : List UInt8) (w : World) (hb : Bk w g t l) (hl : l.length = 16) :
    Calls Tryd.prog 70 #[.pointer (some ⟨g, 0, none⟩)] w (BlkOut g t (mixL l) w) := by
  have HB := Lib.hid hb
  have hgl := hb.lt
  clear hb
  go_enter Tryd.func70, Tryd.ntmps70
  go_wp2_with fail
  go_loopg [2] 4 (fun k c wr => MixOut w g t l c k wr)
  case atStart => exact ⟨0, by omega, rfl, rfl, HB.out, Grew.refl _ _⟩
  case round =>
    obtain ⟨q, hq, hgk, rfl, hbk, hgr⟩ := hrel
    have HGK := Lib.hid hgk
    clear hgk
    by_cases hlt : q < 4
    · have hc : ∀ r, r < 4 → wr.cell? ⟨g, 4 * q + r, none⟩ = some (u8v ((colL l q).getD r 0)) := fun r hr => by
        rw [colL_at l q hr, Bk.at_ hbk (4 * q + r) (by rw [length_setsTo]; omega), List.getD_eq_getElem?_getD, setsTo_from _ _ _ _ (by omega), ← List.getD_eq_getElem?_getD]
      have HCL := Lib.hid (show ∀ j u, (bv (colL l q)).toArray[j]? = some u → wr.cell? ⟨g, 4 * q + j, none⟩ = some u from fun j u hj => by
        by_cases h4 : j < 4
        · rw [hc j h4, ← hj, bvA_at _ _ (by show j < 4; exact h4)]
        · rw [Array.getElem?_eq_none (by rw [bvA_size]; show 4 ≤ j; omega)] at hj; cases hj)
      have HI := Lib.hid (quad_info (l := colL l q) rfl)
      have H1 := Lib.hid (bvA_one (colL l q))
      have HS := Lib.hid (show (4 : Nat) = (bv (colL l q)).toArray.size from rfl)
      obtain ⟨ka, hka⟩ : ∃ ka, ka = (bv (colL l q)).toArray := ⟨_, rfl⟩
      have HKA := Lib.hid hka
      rw [← hka] at HCL HI H1 HS
      have hn : ∀ r, r < 4 → (wr.alloc (.cells ka 115)).cell? ⟨wr.heap.size, r, none⟩ = some (u8v ((colL l q).getD r 0)) := fun r hr => by
        rw [hka, cell?_new, bvA_at _ _ (by show r < 4; exact hr)]
      have n0 := hn 0 (by decide)
      have n1 := hn 1 (by decide)
      have n2 := hn 2 (by decide)
      have n3 := hn 3 (by decide)
      have e1 := bx_xor ((colL l q).getD 0 0) ((colL l q).getD 1 0)
      have e2 := bx_xor ((colL l q).getD 0 0 ^^^ (colL l q).getD 1 0) ((colL l q).getD 2 0)
      have e3 := bx_xor (((colL l q).getD 0 0 ^^^ (colL l q).getD 1 0) ^^^ (colL l q).getD 2 0) ((colL l q).getD 3 0)
      have hgw := hgr.size
      have HBK := Lib.hid hbk
      have HGR := Lib.hid hgr
      clear hbk hgr hc hn hka
      unfold u8v at n0 n1 n2 n3
      obtain ⟨al, hal⟩ : ∃ al, al = ((((colL l q).getD 0 0 ^^^ (colL l q).getD 1 0) ^^^ (colL l q).getD 2 0) ^^^ (colL l q).getD 3 0) := ⟨_, rfl⟩
      rw [← hal] at e3
      have HAL := Lib.hid hal
      clear hal
      generalize (((colL l q).getD 0 0 ^^^ (colL l q).getD 1 0) ^^^ (colL l q).getD 2 0).toNat = X2 at e2 e3
      generalize ((colL l q).getD 0 0 ^^^ (colL l q).getD 1 0).toNat = X1 at e1 e2
      generalize ((colL l q).getD 0 0).toNat = Y0 at n0 e1
      generalize ((colL l q).getD 1 0).toNat = Y1 at n1 e1
      generalize ((colL l q).getD 2 0).toNat = Y2 at n2 e2
      generalize ((colL l q).getD 3 0).toNat = Y3 at n3 e3
      have hat : ∀ c w, (Instr.arrayAt 115 (.slice (some ⟨g, 4 * q, none⟩) 4 c)).run Tryd.prog w = .ok (.pointer (some ⟨g, 4 * q, none⟩)) w := fun c w => run_arrayAt w _ _ 4 _ 4 c Tryd.underlying115 (Nat.le_refl _)
      have c47 : (4 * (q : Int)) + 4 ≤ 16 := by omega
      have c48 : (0 : Int) ≤ 4 * (q : Int) := by omega
      have c49 : 4 * (q : Int) ≤ 4 * (q : Int) + 4 := by omega
      go_wp2_with (first
        | (refine wpList_load_cells rfl 115 (.tmp 16) rfl g (4 * q) rfl ka _ HCL.out Tryd.underlying115 rfl HI.out ?_)
        | (refine wpList_store_new rfl 115 (.tmp 3) (.tmp 17) rfl _ _ ka rfl rfl HI.out HS.out H1.out ?_))
      have hblk0 : Bk (wr.alloc (.cells ka 115)) g t (setsTo (mixB l) l (4 * q)) := HBK.out.alloc _
      have hcol0 : Bk (wr.alloc (.cells ka 115)) wr.heap.size 115 (colL l q) := by rw [HKA.out]; exact Blk.new _ _ _
      have HST := Lib.hid (show MixIn w g t l q wr.heap.size (.int .i64 0) 4 (wr.alloc (.cells ka 115)) from ⟨0, by omega, rfl, rfl, hblk0, hcol0, HGR.out.trans (Grew.of_new ((Below.refl _ _).alloc (Nat.le_refl _) _))⟩)
      clear hblk0 hcol0 n0 n1 n2 n3 e1 e2 e3 HCL HI H1 HS hat
      obtain ⟨xb, hxb⟩ : ∃ xb, xb = wr.heap.size := ⟨_, rfl⟩
      rw [← hxb] at HST ⊢
      have hgx : g < xb := by omega
      have HXB := Lib.hid hxb
      clear hxb hgw
      obtain ⟨ok, hok⟩ : ∃ ok, ok = gk := ⟨_, rfl⟩
      have HOK := Lib.hid hok
      clear hok
      go_loopg [5, 29] 4 (fun k _ i wr => MixIn w g t l q xb i k wr)
      case atStart => exact HST.out
      case round =>
        clear HST
        obtain ⟨r, hr, hgk2, rfl, hbk, hcl, hgr⟩ := hrel
        have HGK2 := Lib.hid hgk2
        clear hgk2
        by_cases hlr : r < 4
        · obtain ⟨m, hm⟩ : ∃ m, m = (r + 1) % 4 := ⟨_, rfl⟩
          have hr1 : m < 4 := by omega
          have k4 : ((r : Int) + 1).tmod 4 = (m : Int) := by rw [Int.tmod_eq_emod_of_nonneg (by omega)]; omega
          have k5 : ((r : Int) + 1) % 4 = (m : Int) := by omega
          have k6 : (m : Int) < 4 := by omega
          have hmx := mix_at l q hlr al HAL.out
          rw [← hm] at hmx
          clear hm
          have c1 := Bk.at_ hbk (4 * q + r) (by rw [length_setsTo]; omega)
          rw [getD_setsTo_at, ← colL_at l q hlr] at c1
          have c2 := Bk.at_ hcl r (by show r < 4; omega)
          have c3 := Bk.at_ hcl m (by show m < 4; omega)
          have f1 := Blk.frozen hbk (4 * q + r)
          have hne : MixIn w g t l q xb (.int .i64 ((r : Int) + 1)) (3 - r) (wr.setCell ⟨g, 4 * q + r, none⟩ (u8v (mixB l (4 * q + r)))) :=
            ⟨r + 1, by omega, by omega, by go_num, Bk.set_ hbk (4 * q + r) _, hcl.far (by show xb ≠ g; omega) _, hgr.set (p := ⟨g, 4 * q + r, none⟩) (.inl rfl) _⟩
          rw [hmx] at hne
          clear hmx
          have HNE := Lib.hid hne
          have o1 := bx_xor ((colL l q).getD r 0) ((colL l q).getD m 0)
          have o2 := bx_xor al (xt ((colL l q).getD r 0 ^^^ (colL l q).getD m 0))
          have o3 := bx_xor ((colL l q).getD r 0) (al ^^^ xt ((colL l q).getD r 0 ^^^ (colL l q).getD m 0))
          have HT := Lib.hid (fun w => (atwice_any ((colL l q).getD r 0 ^^^ (colL l q).getD m 0) w).mono fun e w' h => (⟨h.1, h.2.symm⟩ : e = .returned (.int .u8 ((xt ((colL l q).getD r 0 ^^^ (colL l q).getD m 0)).toNat : Int)) ∧ w' = w))
          clear hne hbk hgr hcl
          unfold u8v at c1 c2 c3 HNE
          generalize ((((colL l q).getD r 0) ^^^ (al ^^^ xt ((colL l q).getD r 0 ^^^ (colL l q).getD m 0))).toNat : Int) = Z4 at HNE o3
          generalize ((al ^^^ xt ((colL l q).getD r 0 ^^^ (colL l q).getD m 0)).toNat : Int) = Z3 at o2 o3
          generalize ((xt ((colL l q).getD r 0 ^^^ (colL l q).getD m 0)).toNat : Int) = Z2 at o2 HT
          generalize (((colL l q).getD r 0 ^^^ (colL l q).getD m 0).toNat : Int) = Z1 at o1 HT
          generalize (((colL l q).getD r 0).toNat : Int) = B1 at c1 c2 o1 o3
          generalize (((colL l q).getD m 0).toNat : Int) = B2 at c3 o1
          have cw : ∀ d o u a, ({ heap := wr.heap, tape := wr.tape, drawn := d, os := o, output := u } : World).cell? a = wr.cell? a := fun _ _ _ _ => rfl
          go_wp2_with fail
          have k1 : IntKind.i64.wrap (4 * (q : Int) + (r : Int)) = 4 * (q : Int) + (r : Int) := IntWalk.i64_in _ (by omega)
          have k2 : IntKind.i64.wrap ((r : Int) + 1) = (r : Int) + 1 := IntWalk.i64_in _ (by omega)
          have g1 : (0 : Int) ≤ 4 * (q : Int) + (r : Int) := by omega
          have g2 : 4 * (q : Int) + (r : Int) < 16 := by omega
          have g3 : (4 * (q : Int) + (r : Int)).toNat = 4 * q + r := by omega
          go_still_tail 22, (by kernel_rfl)
          still_call (HT.out _)
          repeat still_step
          refine wpStill_nil ?_
          clear cw k1 k2 g3 k4 k5
          change wpList _ _ _ _ _ wr.drew
          go_wp2_with fail
          go_roundg (3 - r)
          case measure => have := HGK2.out; omega
          case rel => exact HNE.out.drew 1
        · obtain rfl : r = 4 := by omega
          have HBK2 := Lib.hid hbk
          have HGR2 := Lib.hid hgr
          clear hbk hgr hcl
          go_wp2_with fail
          go_roundg (ok - 1)
          case measure => have := HGK.out; have := HOK.out; omega
          case rel => exact ⟨q + 1, by omega, by have := HGK.out; have := HOK.out; omega, by go_num, HBK2.out, HGR2.out⟩
    · obtain rfl : q = 4 := by omega
      rw [setsTo_all _ l hl] at hbk
      have HBK := Lib.hid hbk
      have HGR := Lib.hid hgr
      clear hbk hgr
      go_wp2_with fail
      go_end0
      exact ⟨rfl, HBK.out, HGR.out⟩
end Go.Proofs.YtiijjpjkfiookaaDoor
