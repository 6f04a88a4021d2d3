/- A maker of tags in memory; a copy into the middle of a block that is known whole. -/
import Derived.Test.YtbjlmodabiadfaaHShaFn
import Derived.Test.YtbjlmodabiadfaaGMem
namespace Go.Proofs.Ytbjlmodabiadfaa
open Go.RowKit

/-! ### a range of a block -/
theorem mid_at (pre xs post : List Value) (j : Nat) (h : j < xs.length) : (pre ++ xs ++ post).toArray[pre.length + j]? = xs[j]? := by
  rw [List.getElem?_toArray, List.append_assoc, List.getElem?_append_right (by omega), List.getElem?_append_left (by omega)]
  congr 1
  omega
theorem mid_set (pre xs post : List Value) (j : Nat) (u : Value) (h : j < xs.length) : (pre ++ xs ++ post).toArray.setIfInBounds (pre.length + j) u = (pre ++ xs.set j u ++ post).toArray := by
  apply Array.ext'
  rw [Array.toList_setIfInBounds]
  simp only []
  rw [List.append_assoc, List.set_append_right _ _ (by omega), List.set_append_left _ _ (by omega), List.append_assoc]
  congr 3
  omega
theorem Blk.mid {w : World} {g : Nat} {t : TypeId} {pre xs post : List Value} (h : Blk w g t (pre ++ xs ++ post).toArray) {n : Nat} (hn : xs.length = n) (hm : n ≤ maxLen) : Row w 0 1 (some ⟨g, pre.length, none⟩) n n xs := by
  refine ⟨by omega, Nat.le_refl _, hm, (fun e => by cases e), fun ad e => ?_⟩
  simp only [Option.some.injEq] at e
  subst e
  refine ⟨g, pre.length, rfl, Nat.zero_le _, h.lt, fun j hj => ⟨?_, h.frozen _⟩, fun j u hu => ?_⟩
  · rw [h.cell, mid_at _ _ _ _ (by omega), List.getElem?_eq_getElem (by omega)]; rfl
  · have hj : j < xs.length := (List.getElem?_eq_some_iff.1 hu).1
    rw [h.cell, mid_at _ _ _ _ hj, hu]
theorem Blk.setCells {g : Nat} {t : TypeId} {pre post : List Value} : ∀ (vs : List Value) {done xs : List Value} {w : World} (_ : Blk w g t (pre ++ (done ++ xs) ++ post).toArray) (_ : vs.length ≤ xs.length), Blk (w.setCells g (pre.length + done.length) vs) g t (pre ++ (done ++ (vs ++ xs.drop vs.length)) ++ post).toArray
  | [], _, _, _, h, _ => by simpa [World.setCells] using h
  | v :: r, done, xs, w, h, hl => by
    cases xs with
    | nil => simp at hl
    | cons x xs =>
      have h1 := h.set (pre.length + done.length) v
      rw [mid_set _ _ _ _ _ (by simp)] at h1
      have e : (done ++ x :: xs).set done.length v = (done ++ [v]) ++ xs := by simp
      rw [e] at h1
      have h2 := Blk.setCells r h1 (by simpa using hl)
      have e2 : pre.length + (done ++ [v]).length = pre.length + done.length + 1 := by simp; omega
      rw [e2] at h2
      have e3 : done ++ (v :: r ++ (x :: xs).drop (v :: r).length) = done ++ [v] ++ (r ++ xs.drop r.length) := by simp
      rw [e3]
      exact h2

theorem run_copy_blk {P : Program} {dT sT ty elem : TypeId} (hu : P.underlying dT = some (.slice elem)) (hs : (P.info? elem).map (·.size) = some 1)
    {w : World} {g n : Nat} {t : TypeId} {pre xs post : List Value} (hd : Blk w g t (pre ++ xs ++ post).toArray) (hn : xs.length = n) {B m c : Nat} {A : Option Addr} {ys : List Value} (hr : Reads w B 1 A m ys) (h1 : ∀ v ∈ ys, v.oneCell' = true) :
    ∃ w', (Builtin.copy_ #[dT, sT] ty #[.slice (some ⟨g, pre.length, none⟩) n n, .slice A m c]).run P w = .ok (goInt (Nat.min m n : Nat)) w' ∧
      Blk w' g t (pre ++ (ys.take (Nat.min m n) ++ xs.drop (Nat.min m n)) ++ post).toArray ∧ Only (· = g) w w' := by
  have hyl : ys.length = m := by have := hr.1; omega
  by_cases h0 : Nat.min m n = 0
  · exact ⟨w, by rw [h0]; exact run_copy_none w dT sT ty elem _ _ n n m c hu hs h0, by rw [h0]; simpa using hd, Only.refl _ _⟩
  · have hm0 : 0 < m := by rcases Nat.eq_zero_or_pos m with h | h; · subst h; exact absurd (Nat.zero_min n) h0
                           · exact h
    obtain ⟨b2, o2, rfl, _, hsrc⟩ := hr.2 hm0
    have hk1 : Nat.min m n ≤ m := Nat.min_le_left _ _
    have hk2 : Nat.min m n ≤ n := Nat.min_le_right _ _
    generalize hk : Nat.min m n = k at *
    have hcl : (ys.take k).length = k := by rw [List.length_take]; omega
    have hthere : ∀ j, j < k → (w.cell? ⟨g, pre.length + j, none⟩).isSome = true := fun j hj => by rw [hd.cell, mid_at _ _ _ _ (by omega), List.getElem?_eq_getElem (by omega)]; rfl
    have hrun := run_copy_cells (P := P) w dT sT ty elem g pre.length n n ⟨b2, o2, none⟩ m c (ys.take k) hu hs (by rw [hcl]; exact hk.symm) (fun j v hj => by
      rw [add_plain]
      rw [List.getElem?_take] at hj
      split at hj
      · exact hsrc j v hj
      · cases hj) (fun j hj => hthere j (by omega)) (fun j hj => hd.frozen _) (fun v hv => h1 v (List.mem_of_mem_take hv))
    rw [hcl] at hrun
    refine ⟨_, hrun, ?_, Only.setCells (S := (· = g)) rfl _ _ (Only.refl _ _) fun j hj => hthere j (by omega)⟩
    have := Blk.setCells (pre := pre) (post := post) (ys.take k) (done := []) (xs := xs) (by simpa using hd) (by omega)
    simpa [hcl, Nat.min_eq_left (show k ≤ ys.length by omega)] using this

theorem wpList_copy_blk {P : Program} {w : World} {ops : Array Oper} {rest : List Oper} {o : Oper} {a : Act} {Q : Exit → Act → World → Prop} (hgd : o.guard = none) (d s : Operand) (dT sT : TypeId)
    (ho : o.op = .call { callee := .builtin .copy, args := #[d, s], argTypes := #[dT, sT] }) {elem : TypeId} (hu : P.underlying dT = some (.slice elem)) (hsz : (P.info? elem).map (·.size) = some 1)
    {n g off : Nat} {t : TypeId} {pre xs post : List Value} (hoff : pre.length = off) (hd : a.eval d = .slice (some ⟨g, off, none⟩) n n) (hblk : Blk w g t (pre ++ xs ++ post).toArray) (hn : xs.length = n)
    {B m c : Nat} {A : Option Addr} {ys : List Value} (hs : a.eval s = .slice A m c) (hr : Reads w B 1 A m ys) (h1 : ∀ v ∈ ys, v.oneCell' = true)
    (h : ∀ w', Blk w' g t (pre ++ (ys.take (Nat.min m n) ++ xs.drop (Nat.min m n)) ++ post).toArray → Only (· = g) w w' → wpList P ops Q rest (a.put o.dst (goInt (Nat.min m n : Nat))) w') :
    wpList P ops Q (o :: rest) a w := by
  subst hoff
  refine wpList_plain hgd fun K hK => ?_
  obtain ⟨w', hrun, h2, h3⟩ := run_copy_blk (P := P) (sT := sT) (ty := o.type) (c := c) hu hsz hblk hn hr h1
  unfold Oper.wp
  simp only [execOp, ho, resolve, invoke, builtin, Sem.run_bind, Sem.run_pure, Result.andThen_ok, List.map_toArray, List.map_cons, List.map_nil, hd, hs, hrun]
  exact hK _ _ (h w' h2 h3)

/-! ### a maker -/
/-- Its cells: the key, the Once, two halves. -/
def mkh (k : Value) (d s : Int) : List Value := [k, Value.int .u32 d, Value.int .i32 s, Value.int .u32 0]
def mk (k : Value) (d s : Int) (x y : List UInt8) : List Value := mkh k d s ++ bv x ++ bv y
theorem mk_key (k : Value) (d s : Int) (x y : List UInt8) : (mk k d s x y).toArray[0]? = some k := rfl
theorem mk_d (k : Value) (d s : Int) (x y : List UInt8) : (mk k d s x y).toArray[1]? = some (.int .u32 d) := rfl
theorem mk_s (k : Value) (d s : Int) (x y : List UInt8) : (mk k d s x y).toArray[2]? = some (.int .i32 s) := rfl
theorem mk_setd (k : Value) (d s d' : Int) (x y : List UInt8) : (mk k d s x y).toArray.setIfInBounds 1 (.int .u32 d') = (mk k d' s x y).toArray := by simp [mk, mkh]
theorem mk_sets (k : Value) (d s s' : Int) (x y : List UInt8) : (mk k d s x y).toArray.setIfInBounds 2 (.int .i32 s') = (mk k d s' x y).toArray := by simp [mk, mkh]
theorem mk_x (k : Value) (d s : Int) (x y : List UInt8) : mk k d s x y = mkh k d s ++ bv x ++ bv y := rfl
theorem mk_y (k : Value) (d s : Int) (x y : List UInt8) : mk k d s x y = (mkh k d s ++ bv x) ++ bv y ++ [] := by simp [mk]
theorem mk_xat (k : Value) (d s : Int) (x y : List UInt8) (i : Nat) (h : i < x.length) : (mk k d s x y).toArray[4 + i]? = some (.int .u8 (x[i].toNat : Int)) := by
  rw [mk_x]
  have := mid_at (mkh k d s) (bv x) (bv y) i (by rw [length_bv]; exact h)
  rw [bv_at x i h] at this
  exact this
theorem mk_yat (k : Value) (d s : Int) (x y : List UInt8) (i : Nat) (hx : x.length = 64) (h : i < y.length) : (mk k d s x y).toArray[68 + i]? = some (.int .u8 (y[i].toNat : Int)) := by
  rw [mk_y]
  have := mid_at (mkh k d s ++ bv x) (bv y) [] i (by rw [length_bv]; exact h)
  rw [bv_at y i h] at this
  rw [← this]
  congr 1
  simp [length_bv, hx, mkh]
theorem mk_setx (k : Value) (d s : Int) (x y : List UInt8) (i : Nat) (c : UInt8) (h : i < x.length) : (mk k d s x y).toArray.setIfInBounds (4 + i) (.int .u8 (c.toNat : Int)) = (mk k d s (x.set i c) y).toArray := by
  rw [mk_x, mk_x, bv_set]
  exact mid_set (mkh k d s) (bv x) (bv y) i _ (by rw [length_bv]; exact h)
theorem mk_sety (k : Value) (d s : Int) (x y : List UInt8) (i : Nat) (c : UInt8) (hx : x.length = 64) (h : i < y.length) : (mk k d s x y).toArray.setIfInBounds (68 + i) (.int .u8 (c.toNat : Int)) = (mk k d s x (y.set i c)).toArray := by
  rw [mk_y, mk_y, bv_set, ← mid_set _ _ _ _ _ (by rw [length_bv]; exact h)]
  congr 1
  simp [length_bv, hx, mkh]
/-- The halves of a key. -/
def halfX (k : List UInt8) : List UInt8 := (keyBlock k).map (· ^^^ 54)
def halfY (k : List UInt8) : List UInt8 := (keyBlock k).map (· ^^^ 92)
theorem length_halfX (k : List UInt8) : (halfX k).length = 64 := by simp [halfX, length_keyBlock]
theorem length_halfY (k : List UInt8) : (halfY k).length = 64 := by simp [halfY, length_keyBlock]
def zeros (n : Nat) : List UInt8 := List.replicate n 0
/-- A maker at block mb: its key lies in a block of X; its halves are made, or not yet. -/
def MakerAt (w : World) (mb : Nat) (X : Nat → Prop) (key : List UInt8) : Prop :=
  ∃ A n c, Row w 0 1 A n c (bv key) ∧ (∀ ad, A = some ad → X ad.block ∧ ad.block ≠ mb) ∧
    (Blk w mb 85 (mk (.slice A n c) 0 0 (zeros 64) (zeros 64)).toArray ∨ Blk w mb 85 (mk (.slice A n c) 1 0 (halfX key) (halfY key)).toArray)
section
variable {w w' : World} {mb : Nat} {X X' : Nat → Prop} {key : List UInt8}
theorem MakerAt.lt (h : MakerAt w mb X key) : mb < w.heap.size := by
  obtain ⟨_, _, _, _, _, h | h⟩ := h <;> exact h.lt
theorem MakerAt.grew {S : Nat → Prop} (h : MakerAt w mb X key) (hg : Grew S w w') (h1 : ¬ S mb) (h2 : ∀ k, X k → ¬ S k) : MakerAt w' mb X key := by
  obtain ⟨A, n, c, hr, ha, hb⟩ := h
  exact ⟨A, n, c, hr.grew hg (fun ad e => h2 _ (ha ad e).1), ha, hb.imp (·.grew hg h1) (·.grew hg h1)⟩
theorem MakerAt.mono (h : MakerAt w mb X key) (hx : ∀ k, X k → X' k) : MakerAt w mb X' key := by
  obtain ⟨A, n, c, hr, ha, hb⟩ := h
  exact ⟨A, n, c, hr, fun ad e => ⟨hx _ (ha ad e).1, (ha ad e).2⟩, hb⟩
end
end Go.Proofs.Ytbjlmodabiadfaa
