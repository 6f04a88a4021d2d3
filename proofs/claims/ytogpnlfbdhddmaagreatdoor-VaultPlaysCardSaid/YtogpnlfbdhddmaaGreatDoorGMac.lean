/- A maker of tags in memory; a copy into the middle of a block that is known whole. THE WALK of (*mac.Maker).halves. THE WALKS of a maker of tags: its Once, Mac; mac.New, mac.Mac. THE WALKS of mac.Same, mac.eight. THE WALK of mac.Fold. The digest's and the tag's contracts, by values (for XFacts). -/
import Derived.Test.YtogpnlfbdhddmaaGreatDoorGSha
import Derived.Test.YtogpnlfbdhddmaaGreatDoorGMem
import Derived.BigRegion
import Derived.Deep.DeepCutAuto
import Derived.Deep.RegionHeld3
import Derived.Conc.MuLone
namespace Go.Proofs.YtogpnlfbdhddmaaGreatDoor
open Go.RowKit

/-! ### a range of a block -/
theorem mid_at (pre xs post : List Value) (j : Nat) (h : j < xs.length) : (pre ++ xs ++ post).toArray[pre.length + j]? = xs[j]? := by
  rw [List.getElem?_toArray, List.append_assoc, List.getElem?_append_right (by omega), List.getElem?_append_left (by omega)]
  congr 1
  omega
theorem mid_set (pre xs post : List Value) (j : Nat) (u : Value) (h : j < xs.length) : (pre ++ xs ++ post).toArray.setIfInBounds (pre.length + j) u = (pre ++ xs.set j u ++ post).toArray := by
  apply Array.ext'
  rw [Array.toList_setIfInBounds]
  simp only []
  rw [List.append_assoc, List.set_append_right _ _ (by omega), List.set_append_left _ _ (by omega), List.append_assoc]
  congr 3
  omega
theorem Blk.mid {w : World} {g : Nat} {t : TypeId} {pre xs post : List Value} (h : Blk w g t (pre ++ xs ++ post).toArray) {n : Nat} (hn : xs.length = n) (hm : n ≤ maxLen) : Row w 0 1 (some ⟨g, pre.length, none⟩) n n xs := by
  refine ⟨by omega, Nat.le_refl _, hm, (fun e => by cases e), fun ad e => ?_⟩
  simp only [Option.some.injEq] at e
  subst e
  refine ⟨g, pre.length, rfl, Nat.zero_le _, h.lt, fun j hj => ⟨?_, h.frozen _⟩, fun j u hu => ?_⟩
  · rw [h.cell, mid_at _ _ _ _ (by omega), List.getElem?_eq_getElem (by omega)]; rfl
  · have hj : j < xs.length := (List.getElem?_eq_some_iff.1 hu).1
    rw [h.cell, mid_at _ _ _ _ hj, hu]
theorem Blk.setCells {g : Nat} {t : TypeId} {pre post : List Value} : ∀ (vs : List Value) {done xs : List Value} {w : World} (_ : Blk w g t (pre ++ (done ++ xs) ++ post).toArray) (_ : vs.length ≤ xs.length), Blk (w.setCells g (pre.length + done.length) vs) g t (pre ++ (done ++ (vs ++ xs.drop vs.length)) ++ post).toArray
  | [], _, _, _, h, _ => by simpa [World.setCells] using h
  | v :: r, done, xs, w, h, hl => by
    cases xs with
    | nil => simp at hl
    | cons x xs =>
      have h1 := h.set (pre.length + done.length) v
      rw [mid_set _ _ _ _ _ (by simp)] at h1
      have e : (done ++ x :: xs).set done.length v = (done ++ [v]) ++ xs := by simp
      rw [e] at h1
      have h2 := Blk.setCells r h1 (by simpa using hl)
      have e2 : pre.length + (done ++ [v]).length = pre.length + done.length + 1 := by simp; omega
      rw [e2] at h2
      have e3 : done ++ (v :: r ++ (x :: xs).drop (v :: r).length) = done ++ [v] ++ (r ++ xs.drop r.length) := by simp
      rw [e3]
      exact h2

theorem run_copy_blk {P : Program} {dT sT ty elem : TypeId} (hu : P.underlying dT = some (.slice elem)) (hs : (P.info? elem).map (·.size) = some 1)
    {w : World} {g n : Nat} {t : TypeId} {pre xs post : List Value} (hd : Blk w g t (pre ++ xs ++ post).toArray) (hn : xs.length = n) {B m c : Nat} {A : Option Addr} {ys : List Value} (hr : Reads w B 1 A m ys) (h1 : ∀ v ∈ ys, v.oneCell' = true) :
    ∃ w', (Builtin.copy_ #[dT, sT] ty #[.slice (some ⟨g, pre.length, none⟩) n n, .slice A m c]).run P w = .ok (goInt (Nat.min m n : Nat)) w' ∧
      Blk w' g t (pre ++ (ys.take (Nat.min m n) ++ xs.drop (Nat.min m n)) ++ post).toArray ∧ Only (· = g) w w' := by
  have hyl : ys.length = m := by have := hr.1; omega
  by_cases h0 : Nat.min m n = 0
  · exact ⟨w, by rw [h0]; exact run_copy_none w dT sT ty elem _ _ n n m c hu hs h0, by rw [h0]; simpa using hd, Only.refl _ _⟩
  · have hm0 : 0 < m := by rcases Nat.eq_zero_or_pos m with h | h; · subst h; exact absurd (Nat.zero_min n) h0
                           · exact h
    obtain ⟨b2, o2, rfl, _, hsrc⟩ := hr.2 hm0
    have hk1 : Nat.min m n ≤ m := Nat.min_le_left _ _
    have hk2 : Nat.min m n ≤ n := Nat.min_le_right _ _
    generalize hk : Nat.min m n = k at *
    have hcl : (ys.take k).length = k := by rw [List.length_take]; omega
    have hthere : ∀ j, j < k → (w.cell? ⟨g, pre.length + j, none⟩).isSome = true := fun j hj => by rw [hd.cell, mid_at _ _ _ _ (by omega), List.getElem?_eq_getElem (by omega)]; rfl
    have hrun := run_copy_cells (P := P) w dT sT ty elem g pre.length n n ⟨b2, o2, none⟩ m c (ys.take k) hu hs (by rw [hcl]; exact hk.symm) (fun j v hj => by
      rw [add_plain]
      rw [List.getElem?_take] at hj
      split at hj
      · exact hsrc j v hj
      · cases hj) (fun j hj => hthere j (by omega)) (fun j hj => hd.frozen _) (fun v hv => h1 v (List.mem_of_mem_take hv))
    rw [hcl] at hrun
    refine ⟨_, hrun, ?_, Only.setCells (S := (· = g)) rfl _ _ (Only.refl _ _) fun j hj => hthere j (by omega)⟩
    have := Blk.setCells (pre := pre) (post := post) (ys.take k) (done := []) (xs := xs) (by simpa using hd) (by omega)
    simpa [hcl, Nat.min_eq_left (show k ≤ ys.length by omega)] using this

theorem wpList_copy_blk {P : Program} {w : World} {ops : Array Oper} {rest : List Oper} {o : Oper} {a : Act} {Q : Exit → Act → World → Prop} (hgd : o.guard = none) (d s : Operand) (dT sT : TypeId)
    (ho : o.op = .call { callee := .builtin .copy, args := #[d, s], argTypes := #[dT, sT] }) {elem : TypeId} (hu : P.underlying dT = some (.slice elem)) (hsz : (P.info? elem).map (·.size) = some 1)
    {n g off : Nat} {t : TypeId} {pre xs post : List Value} (hoff : pre.length = off) (hd : a.eval d = .slice (some ⟨g, off, none⟩) n n) (hblk : Blk w g t (pre ++ xs ++ post).toArray) (hn : xs.length = n)
    {B m c : Nat} {A : Option Addr} {ys : List Value} (hs : a.eval s = .slice A m c) (hr : Reads w B 1 A m ys) (h1 : ∀ v ∈ ys, v.oneCell' = true)
    (h : ∀ w', Blk w' g t (pre ++ (ys.take (Nat.min m n) ++ xs.drop (Nat.min m n)) ++ post).toArray → Only (· = g) w w' → wpList P ops Q rest (a.put o.dst (goInt (Nat.min m n : Nat))) w') :
    wpList P ops Q (o :: rest) a w := by
  subst hoff
  refine wpList_plain hgd fun K hK => ?_
  obtain ⟨w', hrun, h2, h3⟩ := run_copy_blk (P := P) (sT := sT) (ty := o.type) (c := c) hu hsz hblk hn hr h1
  unfold Oper.wp
  simp only [execOp, ho, resolve, invoke, builtin, Sem.run_bind, Sem.run_pure, Result.andThen_ok, List.map_toArray, List.map_cons, List.map_nil, hd, hs, hrun]
  exact hK _ _ (h w' h2 h3)

/-! ### a maker -/
/-- Its cells: the key, the Once, two halves. -/
def mkh (k : Value) (d s : Int) : List Value := [k, Value.int .u32 d, Value.int .i32 s, Value.int .u32 0]
def mk (k : Value) (d s : Int) (x y : List UInt8) : List Value := mkh k d s ++ bv x ++ bv y
theorem mk_key (k : Value) (d s : Int) (x y : List UInt8) : (mk k d s x y).toArray[0]? = some k := rfl
theorem mk_d (k : Value) (d s : Int) (x y : List UInt8) : (mk k d s x y).toArray[1]? = some (.int .u32 d) := rfl
theorem mk_s (k : Value) (d s : Int) (x y : List UInt8) : (mk k d s x y).toArray[2]? = some (.int .i32 s) := rfl
theorem mk_setd (k : Value) (d s d' : Int) (x y : List UInt8) : (mk k d s x y).toArray.setIfInBounds 1 (.int .u32 d') = (mk k d' s x y).toArray := by simp [mk, mkh]
theorem mk_sets (k : Value) (d s s' : Int) (x y : List UInt8) : (mk k d s x y).toArray.setIfInBounds 2 (.int .i32 s') = (mk k d s' x y).toArray := by simp [mk, mkh]
theorem mk_x (k : Value) (d s : Int) (x y : List UInt8) : mk k d s x y = mkh k d s ++ bv x ++ bv y := rfl
theorem mk_y (k : Value) (d s : Int) (x y : List UInt8) : mk k d s x y = (mkh k d s ++ bv x) ++ bv y ++ [] := by simp [mk]
theorem mk_xat (k : Value) (d s : Int) (x y : List UInt8) (i : Nat) (h : i < x.length) : (mk k d s x y).toArray[4 + i]? = some (.int .u8 (x[i].toNat : Int)) := by
  rw [mk_x]
  have := mid_at (mkh k d s) (bv x) (bv y) i (by rw [length_bv]; exact h)
  rw [bv_at x i h] at this
  exact this
theorem mk_yat (k : Value) (d s : Int) (x y : List UInt8) (i : Nat) (hx : x.length = 64) (h : i < y.length) : (mk k d s x y).toArray[68 + i]? = some (.int .u8 (y[i].toNat : Int)) := by
  rw [mk_y]
  have := mid_at (mkh k d s ++ bv x) (bv y) [] i (by rw [length_bv]; exact h)
  rw [bv_at y i h] at this
  rw [← this]
  congr 1
  simp [length_bv, hx, mkh]
theorem mk_setx (k : Value) (d s : Int) (x y : List UInt8) (i : Nat) (c : UInt8) (h : i < x.length) : (mk k d s x y).toArray.setIfInBounds (4 + i) (.int .u8 (c.toNat : Int)) = (mk k d s (x.set i c) y).toArray := by
  rw [mk_x, mk_x, bv_set]
  exact mid_set (mkh k d s) (bv x) (bv y) i _ (by rw [length_bv]; exact h)
theorem mk_sety (k : Value) (d s : Int) (x y : List UInt8) (i : Nat) (c : UInt8) (hx : x.length = 64) (h : i < y.length) : (mk k d s x y).toArray.setIfInBounds (68 + i) (.int .u8 (c.toNat : Int)) = (mk k d s x (y.set i c)).toArray := by
  rw [mk_y, mk_y, bv_set, ← mid_set _ _ _ _ _ (by rw [length_bv]; exact h)]
  congr 1
  simp [length_bv, hx, mkh]
/-- The halves of a key. -/
def halfX (k : List UInt8) : List UInt8 := (keyBlock k).map (· ^^^ 54)
def halfY (k : List UInt8) : List UInt8 := (keyBlock k).map (· ^^^ 92)
theorem length_halfX (k : List UInt8) : (halfX k).length = 64 := by simp [halfX, length_keyBlock]
theorem length_halfY (k : List UInt8) : (halfY k).length = 64 := by simp [halfY, length_keyBlock]
def zeros (n : Nat) : List UInt8 := List.replicate n 0
/-- A maker at block mb: its key lies in a block of X; its halves are made, or not yet. -/
def MakerAt (w : World) (mb : Nat) (X : Nat → Prop) (key : List UInt8) : Prop :=
  ∃ A n c, Row w 0 1 A n c (bv key) ∧ (∀ ad, A = some ad → X ad.block ∧ ad.block ≠ mb) ∧
    (Blk w mb 219 (mk (.slice A n c) 0 0 (zeros 64) (zeros 64)).toArray ∨ Blk w mb 219 (mk (.slice A n c) 1 0 (halfX key) (halfY key)).toArray)
section
variable {w w' : World} {mb : Nat} {X X' : Nat → Prop} {key : List UInt8}
theorem MakerAt.lt (h : MakerAt w mb X key) : mb < w.heap.size := by
  obtain ⟨_, _, _, _, _, h | h⟩ := h <;> exact h.lt
theorem MakerAt.grew {S : Nat → Prop} (h : MakerAt w mb X key) (hg : Grew S w w') (h1 : ¬ S mb) (h2 : ∀ k, X k → ¬ S k) : MakerAt w' mb X key := by
  obtain ⟨A, n, c, hr, ha, hb⟩ := h
  exact ⟨A, n, c, hr.grew hg (fun ad e => h2 _ (ha ad e).1), ha, hb.imp (·.grew hg h1) (·.grew hg h1)⟩
theorem MakerAt.mono (h : MakerAt w mb X key) (hx : ∀ k, X k → X' k) : MakerAt w mb X' key := by
  obtain ⟨A, n, c, hr, ha, hb⟩ := h
  exact ⟨A, n, c, hr, fun ad e => ⟨hx _ (ha ad e).1, (ha ad e).2⟩, hb⟩
end
end Go.Proofs.YtogpnlfbdhddmaaGreatDoor
namespace Go.Proofs.YtogpnlfbdhddmaaGreatDoor
open Go.RowKit

theorem oct_xor (a b : UInt8) : bits .xor .u8 (a.toNat : Int) (b.toNat : Int) = ((a ^^^ b).toNat : Int) := by
  rw [u8_xor_nat _ _ a.toNat_lt b.toNat_lt, UInt8.toNat_xor]
/-- Behind i places of the two halves. -/
def HalfRel (w : World) (mb : Nat) (k : Value) (kb : List UInt8) (i : Value) (wr : World) : Prop :=
  ∃ (j : Nat) (x y : List UInt8), j ≤ 64 ∧ i = .int .i64 j ∧ x.length = 64 ∧ y.length = 64 ∧ (∀ t, t < 64 → x.getD t 0 = if t < j then kb.getD t 0 ^^^ 54 else kb.getD t 0) ∧ (∀ t, t < 64 → y.getD t 0 = if t < j then kb.getD t 0 ^^^ 92 else kb.getD t 0) ∧
    Blk wr mb 219 (mk k 0 1 x y).toArray ∧ Grew (· = mb) w wr
theorem half_step {x kb : List UInt8} {j : Nat} {p : UInt8} (hj : j < 64) (hx : x.length = 64) (h : ∀ t, t < 64 → x.getD t 0 = if t < j then kb.getD t 0 ^^^ p else kb.getD t 0) :
    ∀ t, t < 64 → (x.set j (x[j]'(by omega) ^^^ p)).getD t 0 = if t < j + 1 then kb.getD t 0 ^^^ p else kb.getD t 0 := fun t ht => by
  have hjx := h j hj
  rw [if_neg (by omega), List.getD_eq_getElem?_getD, List.getElem?_eq_getElem (by omega), Option.getD_some] at hjx
  by_cases e : t = j
  · subst e
    rw [if_pos (by omega), List.getD_eq_getElem?_getD, List.getElem?_set_self (by omega), Option.getD_some, hjx]
  · rw [List.getD_eq_getElem?_getD, List.getElem?_set_ne (by omega), ← List.getD_eq_getElem?_getD, h t ht]
    by_cases h1 : t < j
    · rw [if_pos h1, if_pos (by omega)]
    · rw [if_neg h1, if_neg (by omega)]
theorem half_end {x kb : List UInt8} {p : UInt8} (hx : x.length = 64) (hk : kb.length = 64) (h : ∀ t, t < 64 → x.getD t 0 = if t < 64 then kb.getD t 0 ^^^ p else kb.getD t 0) : x = kb.map (· ^^^ p) := by
  apply List.ext_getElem (by simp [hx, hk])
  intro t h1 h2
  have := h t (by omega)
  rw [if_pos (by omega), List.getD_eq_getElem?_getD, List.getD_eq_getElem?_getD, List.getElem?_eq_getElem h1, List.getElem?_eq_getElem (by omega), Option.getD_some, Option.getD_some] at this
  simpa using this
theorem key_cut {key k : List UInt8} (hk : k = if 64 < key.length then Sha.sum key else key) : k.length ≤ 64 ∧ (bv k).take (Nat.min k.length 64) ++ (bv (zeros 64)).drop (Nat.min k.length 64) = bv (keyBlock key) := by
  have hl : k.length ≤ 64 := by
    rw [hk]; split
    · rw [Sha.length_sum]; omega
    · omega
  refine ⟨hl, ?_⟩
  have e : keyBlock key = k ++ List.replicate (64 - k.length) 0 := by rw [hk]; rfl
  rw [e, show Nat.min k.length 64 = k.length from Nat.min_eq_left hl, List.take_of_length_le (by rw [length_bv]; exact Nat.le_refl _), bv_append, ← bv_drop]
  congr 2
  rw [zeros, List.drop_replicate]

theorem half_drew {w wr : World} {mb : Nat} {k : Value} {kb : List UInt8} {i : Value} (h : HalfRel w mb k kb i wr) : HalfRel w mb k kb i wr.drew := by
  obtain ⟨j, x, y, hj, hi, hxl, hyl, hx, hy, hblk, hgr⟩ := h
  exact ⟨j, x, y, hj, hi, hxl, hyl, hx, hy, hblk.drew, hgr.drew⟩
/-- The key, or its digest. -/
def KeyRel (w : World) (mb : Nat) (kk : List UInt8) (s2 : Value) (wx : World) : Prop := Part wx (fun k => k ≠ mb ∧ k < wx.heap.size) s2 kk ∧ Below w.heap.size w wx
set_option maxRecDepth 100000 in
set_option maxHeartbeats 4000000 in
theorem halves_any (mb : Nat) (A : Option Addr) (n c : Nat) (key : List UInt8) (w : World) (hb : Blk w mb 219 (mk (.slice A n c) 0 1 (zeros 64) (zeros 64)).toArray) (hr : Row w 0 1 A n c (bv key)) (ha : ∀ ad, A = some ad → ad.block ≠ mb) (hn : n ≤ 140737488351232) :
    Calls Tryz.prog 163 #[.pointer (some ⟨mb, 0, none⟩)] w fun e w' => e = .returned (.tuple #[]) ∧ Blk w' mb 219 (mk (.slice A n c) 0 1 (halfX key) (halfY key)).toArray ∧ Grew (· = mb) w w' := by
  have hkl : key.length = n := by have := hr.1; rw [length_bv] at this; omega
  have c0 : w.cell? ⟨mb, 0, none⟩ = some (.slice A n c) := hb.cell 0
  have HB := Lib.hid hb
  have HR := Lib.hid hr
  have HA := Lib.hid ha
  have HKL := Lib.hid hkl
  have hml := hb.lt
  clear hb hr ha hkl
  generalize hkk : (if 64 < key.length then Sha.sum key else key) = kk
  have HKK := Lib.hid hkk
  clear hkk
  go_enter Tryz.func163, Tryz.ntmps163
  go_upto_if 10 with fail
  go_cut [2] (fun s2 wx => KeyRel w mb kk s2 wx)
  case first =>
    by_cases h64 : 64 < n
    · have hd : decide (64 < (n : Int)) = true := by simp; omega
      have hparts := Parts.one (t := 27) (w := w) (R := fun k => k < w.heap.size) (Part.of_row HR.out hn fun ad e => (HR.out.lt ad e).2) (fun k hk => hk)
      have hcall := sSum_any [key] _ 1 _ _ hparts (fun k hk => by simp; omega) (by simp) (by simp [HKL.out]; omega)
      rw [show Sha.sum [key].flatten = kk by rw [← HKK.out, if_pos (by rw [HKL.out]; exact h64)]; simp] at hcall
      have SUMK := Lib.hid hcall
      clear hparts hcall
      go_wp2_with fail
      refine (SUMK.out).mono ?_
      rintro e w1 ⟨A1, c1, rfl, hrow1, hb1⟩
      have HROW1 := Lib.hid hrow1
      have HB1 := Lib.hid hb1
      clear hrow1 hb1
      go_wp2_with fail
      go_meet
      have hw : Below w.heap.size w w1 := ((Below.refl _ _).alloc (Nat.le_refl _) _).trans (HB1.out.mono (by simp))
      exact ⟨Part.of_row HROW1.out (by rw [← HKK.out, if_pos (by rw [HKL.out]; exact h64), Sha.length_sum]; omega) fun ad e => by have := HROW1.out.lt ad e; simp at this; omega, hw⟩
    · have hd : decide (64 < (n : Int)) = false := by simp; omega
      go_wp2_with fail
      go_meet
      have e : kk = key := by rw [← HKK.out, if_neg (by rw [HKL.out]; exact h64)]
      exact ⟨by rw [e]; exact Part.of_row HR.out hn fun ad e => ⟨HA.out ad e, (HR.out.lt ad e).2⟩, Below.refl _ _⟩
  case rest =>
    obtain ⟨hpart, hbw⟩ := hcut
    obtain ⟨A2, n2, c2, rfl, hkn, hnc2, hn2, hrd⟩ := hpart.reads (B := wc.heap.size) (fun k hk => hk.2)
    obtain ⟨hk64, hcut64⟩ := key_cut HKK.out.symm
    have hblk : Blk wc mb 219 (mkh (.slice A n c) 0 1 ++ bv (zeros 64) ++ bv (zeros 64)).toArray := HB.out.below hbw hml
    have hz : (bv (zeros 64)).length = 64 := by rw [length_bv]; simp [zeros]
    have HBW := Lib.hid hbw
    have HCUT := Lib.hid hcut64
    have HKN := Lib.hid hkn
    have HPART := Lib.hid hpart
    clear hbw hcut64 hkn hpart
    have hkb : (mkh (.slice A n c) 0 1 ++ bv (keyBlock key)).length = 68 := by rw [List.length_append, length_bv, length_keyBlock]; rfl
    have HKB := Lib.hid hkb
    clear hkb
    go_wp2_with (first
      | (with_reducible refine wpList_copy_blk rfl (.tmp 17) (.tmp 18) _ _ rfl Tryz.underlying27 byte_size (pre := mkh (.slice A n c) 0 1) rfl rfl hblk hz rfl hrd (bv_one kk) ?_; intro w2 hblk2 hon2; rw [← HKN.out, HCUT.out, ← List.append_nil (mkh (.slice A n c) 0 1 ++ bv (keyBlock key) ++ bv (zeros 64))] at hblk2; obtain ⟨_, _, _, hrd2⟩ := (HPART.out.keep (fun k hk => hon2.block k hk.1)).its (B := wc.heap.size) (fun k hk => hk.2))
      | (with_reducible refine wpList_copy_blk rfl (.tmp 23) (.tmp 24) _ _ rfl Tryz.underlying27 byte_size HKB.out rfl hblk2 hz rfl hrd2 (bv_one kk) ?_; intro w3 hblk3 hon3; rw [← HKN.out, HCUT.out, List.append_nil] at hblk3))
    have hst : HalfRel w mb (.slice A n c) (keyBlock key) (.int .i64 0) w3 := ⟨0, keyBlock key, keyBlock key, by omega, rfl, length_keyBlock key, length_keyBlock key, fun t _ => by simp, fun t _ => by simp, hblk3,
      ((Grew.of_new HBW.out).trans (Grew.of_only hon2)).trans (Grew.of_only hon3)⟩
    have HST := Lib.hid hst
    clear hst hblk hrd hblk2 hblk3 hon2 hon3 hrd2
    go_loopw [3, 26] (fun _ i wr => HalfRel w mb (.slice A n c) (keyBlock key) i wr) (fun _ i _ => 64 - (intOf i).toNat)
    case atStart => exact HST.out
    case round =>
      clear HST
      obtain ⟨j, x, y, hj, rfl, hxl, hyl, hx, hy, hblk, hgr⟩ := hrel
      by_cases hlt : j < 64
      · have c1 : wr.cell? ⟨mb, 4 + j, none⟩ = some (.int .u8 ((x[j]'(by omega)).toNat : Int)) := (hblk.cell (4 + j)).trans (mk_xat _ _ _ _ _ _ (by omega))
        have c2 : wr.cell? ⟨mb, 68 + j, none⟩ = some (.int .u8 ((y[j]'(by omega)).toNat : Int)) := (hblk.cell (68 + j)).trans (mk_yat _ _ _ _ _ _ hxl (by omega))
        have f1 := hblk.frozen (4 + j)
        have f2 := hblk.frozen (68 + j)
        have hb2 := hblk.set (4 + j) (.int .u8 ((x[j]'(by omega) ^^^ 54).toNat : Int))
        rw [mk_setx _ _ _ _ _ _ _ (by omega)] at hb2
        have hb3 := hb2.set (68 + j) (.int .u8 ((y[j]'(by omega) ^^^ 92).toNat : Int))
        rw [mk_sety _ _ _ _ _ _ _ (by simp [hxl]) (by omega)] at hb3
        have HX := Lib.hid (half_step hlt hxl hx)
        have HY := Lib.hid (half_step hlt hyl hy)
        have hne : HalfRel w mb (.slice A n c) (keyBlock key) (.int .i64 ((j : Int) + 1)) _ := ⟨j + 1, _, _, by omega, by go_num, by simp [hxl], by simp [hyl], HX.out, HY.out, hb3, (hgr.set (p := ⟨mb, 4 + j, none⟩) (.inl rfl) _).set (p := ⟨mb, 68 + j, none⟩) (.inl rfl) _⟩
        have HNE := Lib.hid hne
        have e1 := oct_xor (x[j]'(by omega)) 54
        have e2 := oct_xor (y[j]'(by omega)) 92
        rw [show ((54 : UInt8).toNat : Int) = 54 from rfl] at e1
        rw [show ((92 : UInt8).toNat : Int) = 92 from rfl] at e2
        clear hx hy hblk hgr hb2 hb3 hne HX HY
        generalize x[j]'(by omega) = xj at c1 e1 HNE
        generalize y[j]'(by omega) = yj at c2 e2 HNE
        go_wp2_with fail
        go_region
        go_wp2_with fail
        go_region
        go_wp2_with fail
        go_roundw
        case rel =>
          have h := half_drew (half_drew HNE.out)
          rw [UInt8.toNat_xor, UInt8.toNat_xor] at h
          exact h
        case measure => simp [intOf]; omega
      · obtain rfl : j = 64 := by omega
        have hxe : x = halfX key := half_end hxl (length_keyBlock key) hx
        have hye : y = halfY key := half_end hyl (length_keyBlock key) hy
        rw [hxe, hye] at hblk
        have HBLK := Lib.hid hblk
        have HGR := Lib.hid hgr
        clear hx hy hblk hgr hxe hye
        go_wp2_with fail
        go_end0
        exact ⟨rfl, HBLK.out, HGR.out⟩
end Go.Proofs.YtogpnlfbdhddmaaGreatDoor
namespace Go.Proofs.YtogpnlfbdhddmaaGreatDoor
open Go.RowKit

theorem Grew.next {S T : Nat → Prop} {w w1 w2 : World} (h : Grew S w w1) (k : Grew T w1 w2) (hT : ∀ k, k < w.heap.size → T k → S k) : Grew S w w2 :=
  ⟨k.os.trans h.os, k.tape.trans h.tape, k.output.trans h.output, Nat.le_trans h.size k.size, fun i hi hn => (k.block i (Nat.lt_of_lt_of_le hi h.size) (fun ht => hn (hT i hi ht))).trans (h.block i hi hn)⟩
theorem Grew.next_new {S : Nat → Prop} {w w1 w2 : World} (h : Grew S w w1) (k : Below w1.heap.size w1 w2) : Grew S w w2 := h.trans (Grew.of_new k)

theorem HashAt.drew {w : World} {hb q : Nat} {X : Nat → Prop} {l : List UInt8} (h : HashAt w hb X l q) : HashAt w.drew hb X l q := by
  obtain ⟨A, n, c, h1, h2, h3, h4⟩ := h
  exact ⟨A, n, c, h1.drew, h2.drew, h3, h4⟩

/-- Behind the maker's Once: its halves are made. -/
def OnceOut (mb : Nat) (k : Value) (key : List UInt8) (w : World) (e : Ending) (w' : World) : Prop := e = .returned (.tuple #[]) ∧ Blk w' mb 219 (mk k 1 0 (halfX key) (halfY key)).toArray ∧ Grew (· = mb) w w'
theorem halves_enter (args : Array Value) (w : World) : (callFunc 163 args).run Tryz.prog w = .ok (.enter 163 args) w :=
  Go.MuLone.run_callFunc_enter Tryz.func163 (by kernel_rfl) rfl args w
theorem once_maker (mb : Nat) (A : Option Addr) (n c : Nat) (key : List UInt8) (w : World) (hr : Row w 0 1 A n c (bv key)) (ha : ∀ ad, A = some ad → ad.block ≠ mb) (hn : n ≤ 140737488351232)
    (hb : Blk w mb 219 (mk (.slice A n c) 0 0 (zeros 64) (zeros 64)).toArray ∨ Blk w mb 219 (mk (.slice A n c) 1 0 (halfX key) (halfY key)).toArray) :
    Calls Tryz.prog 53 #[.pointer (some ⟨mb, 1, none⟩), .func (.func 163) #[.pointer (some ⟨mb, 0, none⟩)] #[]] w (OnceOut mb (.slice A n c) key w) := by
  rcases hb with hb | hb
  · have hb2 := hb.set 2 (.int .i32 1)
    rw [mk_sets] at hb2
    have hh := halves_any mb A n c key (w.setCell ⟨mb, 2, none⟩ (.int .i32 1)) hb2 (hr.far (fun ad e => ha ad e) _) ha hn
    have hd := Once.Do_first mb 1 163 #[.pointer (some ⟨mb, 0, none⟩)] #[] (fun w2 => Blk w2 mb 219 (mk (.slice A n c) 0 1 (halfX key) (halfY key)).toArray ∧ Grew (· = mb) w w2) w
      ((hb.cell 1).trans (mk_d _ _ _ _ _)) ((hb.cell 2).trans (mk_s _ _ _ _ _)) (hb.frozen 2) (fun w => halves_enter _ w)
      (hh.mono fun e w2 ⟨he, h1, h2⟩ => ⟨he, ⟨h1, ((Grew.refl (· = mb) w).set (p := ⟨mb, 2, none⟩) (.inl rfl) _).trans h2⟩, (h1.cell 1).trans (mk_d _ _ _ _ _), (h1.cell 2).trans (mk_s _ _ _ _ _), h1.frozen 1, h1.frozen 2⟩)
    refine hd.mono fun e w' ⟨he, w2, ⟨h1, h2⟩, _, _, hw⟩ => ⟨he, ?_, ?_⟩
    · have h3 := (h1.drew.set 1 (.int .u32 1)).set 2 (.int .i32 0)
      rw [mk_setd, mk_sets] at h3
      rw [hw]
      exact h3
    · rw [hw]
      exact (h2.drew.set (p := ⟨mb, 1, none⟩) (.inl rfl) _).set (p := ⟨mb, 2, none⟩) (.inl rfl) _
  · refine (Once.Do_done mb 1 _ w ((hb.cell 1).trans (mk_d _ _ _ _ _))).mono fun e w' ⟨he, hw⟩ => ⟨he, ?_, ?_⟩
    · rw [← hw]; exact hb
    · rw [← hw]; exact Grew.refl _ _
/-- A tag in a new row; the maker is one still. -/
def MacOut (mb : Nat) (X : Nat → Prop) (key t : List UInt8) (w : World) (e : Ending) (w' : World) : Prop :=
  ∃ A c, e = .returned (.slice A t.length c) ∧ Row w' w.heap.size 1 A t.length c (bv t) ∧ MakerAt w' mb X key ∧ Grew (· = mb) w w'
theorem macB_def (key b : List UInt8) : macB key b = Sha.sum (halfY key ++ Sha.sum (halfX key ++ b)) := rfl
theorem half_part {w : World} {mb : Nat} {k : Value} {key : List UInt8} (h : Blk w mb 219 (mk k 1 0 (halfX key) (halfY key)).toArray) :
    Part w (· = mb) (.slice (some ⟨mb, 4, none⟩) 64 64) (halfX key) ∧ Part w (· = mb) (.slice (some ⟨mb, 68, none⟩) 64 64) (halfY key) := by
  constructor
  · refine Part.of_row (base := 0) ?_ (by omega) fun ad e => by simp at e; rw [← e]
    have := Blk.mid (pre := mkh k 1 0) (xs := bv (halfX key)) (post := bv (halfY key)) h (n := 64) (by rw [length_bv, length_halfX]) (by unfold maxLen; omega)
    exact this
  · refine Part.of_row (base := 0) ?_ (by omega) fun ad e => by simp at e; rw [← e]
    rw [mk_y] at h
    have := Blk.mid h (n := 64) (by rw [length_bv, length_halfY]) (by unfold maxLen; omega)
    rw [List.length_append, length_bv, length_halfX] at this
    exact this

theorem outer_call {w5 : World} {mb base c5 : Nat} {k : Value} {key d t : List UInt8} {A5 : Option Addr} (hb : Blk w5 mb 219 (mk k 1 0 (halfX key) (halfY key)).toArray) (hr : Row w5 base 1 A5 d.length c5 (bv d)) (hd : d.length ≤ 32) (ht : Sha.sum (halfY key ++ d) = t) :
    Calls Tryz.prog 166 #[.slice (some ⟨w5.heap.size, 0, none⟩) 2 2] (w5.alloc (.cells #[.slice (some ⟨mb, 68, none⟩) 64 64, .slice A5 d.length c5] 27)) (RowOut t (w5.alloc (.cells #[.slice (some ⟨mb, 68, none⟩) 64 64, .slice A5 d.length c5] 27))) := by
  have hbl := hb.lt
  have h := sSum_any [halfY key, d] _ 2 _ _ (Parts.two (t := 27) (R := fun k => k < w5.heap.size) ((half_part hb).2.mono fun k hk => by omega) (Part.of_row hr (by omega) fun ad e => (hr.lt ad e).2) (fun k hk => hk)) (fun k hk => by simp; omega) (by simp) (by simp [length_halfY]; omega)
  rw [show Sha.sum [halfY key, d].flatten = t by rw [← ht]; simp] at h
  exact h

set_option maxRecDepth 100000 in
set_option maxHeartbeats 4000000 in
theorem MMac_any (mb : Nat) (X : Nat → Prop) (key : List UInt8) (L : List (List UInt8)) (PA : Option Addr) (pc : Nat) (R : Nat → Prop) (w : World) (h : MakerAt w mb X key) (hk : key.length ≤ 140737488351232) (hp : Parts w R PA L) (hR : ∀ k, R k → k < w.heap.size ∧ k ≠ mb)
    (hlen : L.length ≤ 140737488351232) (hsum : L.flatten.length ≤ 576460752303423488) :
    Calls Tryz.prog 127 #[.pointer (some ⟨mb, 0, none⟩), .slice PA L.length pc] w (MacOut mb X key (macB key L.flatten) w) := by
  have hml := h.lt
  obtain ⟨A, n, c, hrow, ha, hb⟩ := h
  have hmf : ∀ (fn : Fn) (first cap : Array Value) (w : World), (Instr.makeFunc fn first cap).run Tryz.prog w = .ok (.func fn first cap) w := fun _ _ _ _ => rfl
  have hd := Lib.hid (once_maker mb A n c key w hrow (fun ad e => (ha ad e).2) (by have := hrow.1; rw [length_bv] at this; omega) hb)
  generalize ht : macB key L.flatten = t
  have HT := Lib.hid ht
  have HROW := Lib.hid hrow
  have HA := Lib.hid ha
  have HP := Lib.hid hp
  have HR := Lib.hid hR
  clear ht hrow ha hp hR hb
  go_enter Tryz.func127, Tryz.ntmps127
  go_wp2_with fail
  refine hd.out.mono ?_
  rintro e w1 ⟨rfl, hb1, hg1⟩
  have HB1 := Lib.hid hb1
  have HG1 := Lib.hid hg1
  have hs1 := hg1.size
  clear hb1 hg1 hd
  go_wp2_with fail
  refine (New_any w1).mono ?_
  rintro e w2 ⟨rfl, hh2, hb2, hs2⟩
  have HH2 := Lib.hid (hh2 (fun _ => False))
  have HG2 := Lib.hid (HG1.out.next_new hb2)
  have HB2 := Lib.hid (HB1.out.below hb2 (by omega))
  generalize hhb : w2.heap.size - 1 = hb at HH2
  have hhl : hb < w2.heap.size := HH2.out.lt
  have hhg : w.heap.size ≤ hb := by omega
  clear hh2 hb2 hhb
  go_wp2_with fail
  refine (Write_any hb (fun _ => False) [] [halfX key] _ 1 _ _ 0 (HH2.out.alloc _) (Parts.one (half_part HB2.out).1 (fun k hk => by omega)) (fun k hk => by have : k ≠ hb := (by rcases hk with hk | hk <;> omega); exact ⟨by simp; omega, this, fun h => h⟩) (by simp) (by simp [length_halfX])).mono ?_
  rintro e w3 ⟨rfl, hh3, hg3⟩
  simp only [List.nil_append, List.flatten_cons, List.flatten_nil, List.append_nil, length_halfX, Nat.zero_add] at hh3
  have hs3 : w2.heap.size < w3.heap.size := by have := hg3.size; simp at this; omega
  have HG3 := Lib.hid ((HG2.out.alloc _).next hg3 fun k hk h => by rcases h with rfl | h; omega; exact h.elim)
  have HB3 := Lib.hid ((HB2.out.alloc _).grew hg3 (fun h => by rcases h with h | h; omega; exact h))
  have HH3 := Lib.hid hh3
  clear hh3 hg3
  go_wp2_with fail
  refine (Write_any hb _ (halfX key) L PA pc R w3 64 HH3.out (HP.out.grew HG3.out fun k hk => HR.out k hk) (fun k hk => by have := HR.out k hk; exact ⟨by omega, by omega, fun h => by rcases h with h | h; exact h; simp at h; omega⟩) hlen (by omega)).mono ?_
  rintro e w4 ⟨rfl, hh4, hg4⟩
  have hs4 := hg4.size
  have HG4 := Lib.hid (HG3.out.next hg4 fun k hk h => by rcases h with rfl | h | h; omega; exact h.elim; simp at h; omega)
  have HB4 := Lib.hid (HB3.out.grew hg4 (fun h => by rcases h with h | h | h; omega; exact h; simp at h; omega))
  have hsl : 64 + L.flatten.length = (halfX key ++ L.flatten).length := by rw [List.length_append, length_halfX]
  rw [hsl] at hh4
  have HH4 := Lib.hid hh4
  have hml4 : mb < w4.heap.size := by omega
  have hdl : (halfX key ++ L.flatten).length ≤ 1152921504606846976 := by omega
  have htd := HT.out
  rw [macB_def] at htd
  have HTD := Lib.hid htd
  clear hh4 hg4 hsl htd
  go_wp2_with fail
  have hsum4 := HSum_any hb _ _ w4.drew HH4.out.drew hdl
  have hd32 : (Sha.sum (halfX key ++ L.flatten)).length ≤ 32 := Nat.le_of_eq (Sha.length_sum _)
  generalize Sha.sum (halfX key ++ L.flatten) = d at hsum4 HTD hd32
  have HSUM4 := Lib.hid hsum4
  clear hsum4
  go_region_held3 (fun _ => True) (trivial)
    (first
      | (go_at_call 167; refine HSUM4.out.mono ?_; rintro e w5 ⟨A5, c5, rfl, hrow5, hb5⟩; have HROW5 := Lib.hid hrow5; have HG5 := Lib.hid (HG4.out.drew.next_new hb5); have HB5 := Lib.hid (HB4.out.drew.below hb5 hml4); have hs5 : w4.heap.size ≤ w5.heap.size := hb5.size; clear hrow5 hb5)
      | (go_at_call 166; refine (outer_call HB5.out HROW5.out hd32 HTD.out).mono ?_; rintro e w6 ⟨A6, c6, rfl, hrow6, hb6⟩; have HROW6 := Lib.hid hrow6; have HG6 := Lib.hid ((HG5.out.alloc _).next_new hb6); have HB6 := Lib.hid (((HB5.out.alloc _).below hb6 (by simp; omega))); have hs6 : w5.heap.size + 1 ≤ w6.heap.size := (by have h := hb6.size; simp at h; exact h); clear hrow6 hb6))
  go_wp2_with fail
  go_ret
  exact ⟨A6, c6, rfl, HROW6.out.mono (by simp; omega), ⟨A, n, c, HROW.out.grew HG6.out (fun ad e => (HA.out ad e).2), HA.out, .inr HB6.out⟩, HG6.out⟩

theorem mk_new (x : Value) : Tryz.zeroCells219.setIfInBounds 0 x = (mk x 0 0 (zeros 64) (zeros 64)).toArray := by kernel_rfl
/-- A new maker, in new blocks. -/
def NewOut (key : List UInt8) (w : World) (e : Ending) (w' : World) : Prop :=
  ∃ mb, e = .returned (.pointer (some ⟨mb, 0, none⟩)) ∧ w.heap.size ≤ mb ∧ MakerAt w' mb (fun k => w.heap.size ≤ k) key ∧ Below w.heap.size w w'
set_option maxRecDepth 100000 in
set_option maxHeartbeats 4000000 in
theorem New_maker (key : List UInt8) (A : Option Addr) (n c B : Nat) (w : World) (hr : Reads w B 1 A n (bv key)) (hB : B ≤ w.heap.size) (hn : n ≤ 140737488351232) :
    Calls Tryz.prog 126 #[.slice A n c] w (NewOut key w) := by
  have hc := Lib.hid (bClone_any A n c B key w hr hB (by omega))
  clear hr
  go_enter Tryz.func126, Tryz.ntmps126
  go_wp2_with fail
  refine hc.out.mono ?_
  rintro e w1 ⟨A1, c1, rfl, hrow, hb1⟩
  have HROW := Lib.hid hrow
  have HB1 := Lib.hid hb1
  clear hrow hb1 hc
  go_wp2_with fail
  go_ret
  have hs1 := HB1.out.size
  refine ⟨w1.heap.size, rfl, hs1, ⟨A1, key.length, c1, (HROW.out.mono (Nat.zero_le _)).alloc _, fun ad e => ?_, .inl ?_⟩, HB1.out.alloc hs1 _⟩
  · have := HROW.out.lt ad e
    exact ⟨this.1, by omega⟩
  · rw [← mk_new]
    exact Blk.new w1 219 _

set_option maxHeartbeats 1000000 in
theorem Mac_any (key : List UInt8) (L : List (List UInt8)) (A : Option Addr) (n c B : Nat) (PA : Option Addr) (pc : Nat) (R : Nat → Prop) (w : World) (hr : Reads w B 1 A n (bv key)) (hB : B ≤ w.heap.size) (hn : n ≤ 140737488351232) (hp : Parts w R PA L) (hR : ∀ k, R k → k < w.heap.size)
    (hlen : L.length ≤ 140737488351232) (hsum : L.flatten.length ≤ 576460752303423488) :
    Calls Tryz.prog 87 #[.slice A n c, .slice PA L.length pc] w (RowOut (macB key L.flatten) w) := by
  have hkl : key.length = n := by have := hr.1; rw [length_bv] at this; omega
  have hc := Lib.hid (New_maker key A n c B w hr hB hn)
  generalize ht : macB key L.flatten = t
  have HT := Lib.hid ht
  have HP := Lib.hid hp
  have HR := Lib.hid hR
  have HKL := Lib.hid hkl
  clear hr ht hp hR hkl
  go_enter Tryz.func87, Tryz.ntmps87
  go_wp2_with fail
  refine hc.out.mono ?_
  rintro e w1 ⟨mb, rfl, hmb, hm, hb1⟩
  have HM := Lib.hid hm
  have HB1 := Lib.hid hb1
  have hs1 := hb1.size
  clear hm hb1 hc
  go_wp2_with fail
  have hm2 := MMac_any mb _ key L PA pc R w1 HM.out (by rw [HKL.out]; exact hn) (HP.out.keep fun k hk => HB1.out.block k (HR.out k hk)) (fun k hk => by have := HR.out k hk; omega) hlen hsum
  rw [HT.out] at hm2
  refine hm2.mono ?_
  rintro e w2 ⟨A2, c2, rfl, hrow, _, hg⟩
  have HROW := Lib.hid hrow
  have HG := Lib.hid hg
  clear hrow hg hm2
  go_wp2_with fail
  go_ret
  exact ⟨A2, c2, rfl, HROW.out.mono hs1, HB1.out.trans (HG.out.below hs1 fun k _ hk => by omega)⟩
end Go.Proofs.YtogpnlfbdhddmaaGreatDoor
namespace Go.Proofs.YtogpnlfbdhddmaaGreatDoor
open Go.RowKit

/-- What parts two texts, so far. -/
def acc (a b : List UInt8) : Nat → UInt8
  | 0 => 0
  | k + 1 => acc a b k ||| (a.getD k 0 ^^^ b.getD k 0)
theorem or_zero {a b : UInt8} : a ||| b = 0 ↔ a = 0 ∧ b = 0 := by
  constructor
  · intro h
    have e : (a ||| b).toNat = 0 := by rw [h]; rfl
    rw [UInt8.toNat_or] at e
    have := Nat.or_eq_zero_iff.1 e
    exact ⟨UInt8.toNat_inj.1 (by simpa using this.1), UInt8.toNat_inj.1 (by simpa using this.2)⟩
  · rintro ⟨rfl, rfl⟩; rfl
theorem xor_zero {a b : UInt8} : a ^^^ b = 0 ↔ a = b := by
  constructor
  · intro h
    have : (a ^^^ b) ^^^ b = 0 ^^^ b := by rw [h]
    simpa [UInt8.xor_assoc] using this
  · rintro rfl; simp
theorem acc_zero (a b : List UInt8) : ∀ k, acc a b k = 0 ↔ ∀ j, j < k → a.getD j 0 = b.getD j 0
  | 0 => by simp [acc]
  | k + 1 => by
    rw [acc, or_zero, acc_zero a b k, xor_zero]
    constructor
    · rintro ⟨h1, h2⟩ j hj
      rcases Nat.lt_or_ge j k with h | h
      · exact h1 j h
      · obtain rfl : j = k := by omega
        exact h2
    · intro h
      exact ⟨fun j hj => h j (by omega), h k (by omega)⟩
theorem acc_eq {a b : List UInt8} (h : a.length = b.length) : ((acc a b a.length).toNat == 0) = (a == b) := by
  rw [Bool.eq_iff_iff, beq_iff_eq, beq_iff_eq]
  have e : (acc a b a.length).toNat = 0 ↔ acc a b a.length = 0 := ⟨fun h => UInt8.toNat_inj.1 (by simpa using h), fun h => by rw [h]; rfl⟩
  rw [e, acc_zero]
  constructor
  · intro hj
    apply List.ext_getElem h
    intro i h1 h2
    have := hj i h1
    simpa [List.getD_eq_getElem?_getD, h1, h2] using this
  · rintro rfl; intro j _; rfl

def SameRel (w : World) (a b : List UInt8) (s5 i : Value) (wr : World) : Prop := ∃ k q : Nat, k ≤ a.length ∧ i = .int .i64 k ∧ s5 = .int .u8 ((acc a b k).toNat : Int) ∧ wr = w.drewN q
theorem or_xor (x a b : UInt8) : bits .or .u8 (x.toNat : Int) (bits .xor .u8 (a.toNat : Int) (b.toNat : Int)) = ((x ||| (a ^^^ b)).toNat : Int) := by
  rw [oct_xor, u8_or_nat _ _ x.toNat_lt (a ^^^ b).toNat_lt, UInt8.toNat_or]

/-- k bytes of a number are written. -/
def EightRel (w : World) (n : Int) (d : Int → Nat → Prop) (s3 s4 : Value) (wr : World) : Prop :=
  ∃ (k : Nat) (s : Int) (A : Option Addr) (c : Nat), k ≤ 8 ∧ d s k ∧ s4 = .int .i64 s ∧ s3 = .slice A k c ∧ Row wr w.heap.size 1 A k c (bv ((Sha.eight n).take k)) ∧ Below w.heap.size w wr
theorem eight_row {w w2 : World} {n : Int} {d : Int → Nat → Prop} {k c2 : Nat} {s : Int} {A2 : Option Addr} (h : k < 8) (hd : d s (k + 1)) (hr : Row w2 w.heap.size 1 A2 (k + 1) c2 (bv ((Sha.eight n).take k) ++ [.int .u8 (n / 2 ^ (56 - 8 * k) % 256)])) (hb : Below w.heap.size w w2) : EightRel w n d (.slice A2 (k + 1) c2) (.int .i64 s) w2 := by
  refine ⟨k + 1, s, A2, c2, by omega, hd, rfl, rfl, ?_, hb⟩
  rw [Sha.eight_next n k h, bv_append]
  have e : bv [Sha.by8 n (56 - 8 * k)] = [.int .u8 (n / 2 ^ (56 - 8 * k) % 256)] := by simp [bv, Sha.by8_toNat]
  rw [e]
  exact hr

set_option maxRecDepth 100000 in
set_option maxHeartbeats 4000000 in
theorem eight_any (n : Int) (w : World) :
    Calls Tryz.prog 88 #[.int .i64 n] w (RowOut (Sha.eight n) w) := by
  obtain ⟨i0, hi, hz0, hz1, hz2⟩ := info_parts byte_info
  go_enter Tryz.func88, Tryz.ntmps88
  go_wp2_with fail
  go_loopw [3, 4] (fun s3 s4 wr => EightRel w n (fun s k => s = 56 - 8 * k) s3 s4 wr) (fun _ s4 _ => (intOf s4 + 8).toNat)
  case atStart => exact ⟨0, 56, none, 0, by omega, rfl, rfl, rfl, Row.nil_ _ _ _, Below.refl _ _⟩
  case round =>
    obtain ⟨k, s, A, c, hk, rfl, rfl, rfl, hrow, hb⟩ := hrel
    have hsz := hb.size
    have HROW := Lib.hid hrow
    have HB := Lib.hid hb
    clear hrow hb
    by_cases hlt : k < 8
    · go_wp2_with (at_builtin; refine wpList_append_row rfl (.tmp 9) (.tmp 14) rfl Tryz.underlying27 hi hz0 hz1 hz2 rfl (by decide) rfl (HROW.out.alloc _) rfl (Reads.lit _ _ _ (n := 1) rfl) (by intro v hv; simp at hv; rcases hv with rfl; rfl) (by unfold maxLen; omega) (by omega) (by simp; omega) ?_; intro A2 c2 w2 hrow2 hgr2 hat2; have HB2 := Lib.hid (below_append HB.out hsz HROW.out hgr2); have HR2 := Lib.hid hrow2; clear hrow2 hgr2 hat2)
      go_roundw
      case rel => exact eight_row hlt (by omega) HR2.out HB2.out
      case measure => simp [intOf]; omega
    · obtain rfl : k = 8 := by omega
      go_wp2_with fail
      go_ret
      exact ⟨A, c, rfl, HROW.out, HB.out⟩
set_option maxRecDepth 100000 in
set_option maxHeartbeats 4000000 in
theorem rEight_any (n : Int) (w : World) :
    Calls Tryz.prog 106 #[.int .i64 n] w (RowOut (Sha.eight n) w) := by
  obtain ⟨i0, hi, hz0, hz1, hz2⟩ := info_parts byte_info
  go_enter Tryz.func106, Tryz.ntmps106
  go_wp2_with fail
  go_loopw [3, 4] (fun s3 s4 wr => EightRel w n (fun s k => s = 7 - k) s3 s4 wr) (fun _ s4 _ => (intOf s4 + 1).toNat)
  case atStart => exact ⟨0, 7, none, 0, by omega, rfl, rfl, rfl, Row.nil_ _ _ _, Below.refl _ _⟩
  case round =>
    obtain ⟨k, s, A, c, hk, rfl, rfl, rfl, hrow, hb⟩ := hrel
    have hsz := hb.size
    have HROW := Lib.hid hrow
    have HB := Lib.hid hb
    clear hrow hb
    by_cases hlt : k < 8
    · go_wp2_with (at_builtin; refine wpList_append_row rfl (.tmp 9) (.tmp 15) rfl Tryz.underlying27 hi hz0 hz1 hz2 rfl (by decide) rfl (HROW.out.alloc _) rfl (Reads.lit _ _ _ (n := 1) rfl) (by intro v hv; simp at hv; rcases hv with rfl; rfl) (by unfold maxLen; omega) (by omega) (by simp; omega) ?_; intro A2 c2 w2 hrow2 hgr2 hat2; have HB2 := Lib.hid (below_append HB.out hsz HROW.out hgr2); have HR2 := Lib.hid hrow2; clear hrow2 hgr2 hat2)
      go_roundw
      case rel =>
        have h := HR2.out
        rw [show 8 * (7 - k) = 56 - 8 * k by omega] at h
        exact eight_row hlt (by omega) h HB2.out
      case measure => simp [intOf]; omega
    · obtain rfl : k = 8 := by omega
      go_wp2_with fail
      go_ret
      exact ⟨A, c, rfl, HROW.out, HB.out⟩
end Go.Proofs.YtogpnlfbdhddmaaGreatDoor
namespace Go.Proofs.YtogpnlfbdhddmaaGreatDoor
open Go.RowKit

def bytesOf (L : List ByteArray) : List (List UInt8) := L.map (·.data.toList)
theorem fold_next (k : List UInt8) (L : List ByteArray) (i : Nat) (h : i < L.length) : foldB k (bytesOf (L.take (i + 1))) = macB (foldB k (bytesOf (L.take i))) (Sha.eight L[i].data.toList.length ++ L[i].data.toList) := by
  rw [List.take_succ_eq_append_getElem h, bytesOf, List.map_append, foldB_append]
  rfl
theorem fold_le (k : List UInt8) (hk : k.length ≤ 140737488351232) : ∀ L, (foldB k L).length ≤ 140737488351232
  | [] => hk
  | s :: r => fold_le (macB k (Sha.eight s.length ++ s)) (by rw [length_macB]; omega) r
/-- Behind i labels. -/
def FoldRel (w : World) (key : List UInt8) (L : List ByteArray) (s5 i : Value) (wr : World) : Prop :=
  ∃ (j : Nat) (A : Option Addr) (n c : Nat), j ≤ L.length ∧ i = .int .i64 j ∧ s5 = .slice A n c ∧ Row wr w.heap.size 1 A n c (bv (foldB key (bytesOf (L.take j)))) ∧ Below w.heap.size w wr

set_option maxRecDepth 100000 in
set_option maxHeartbeats 4000000 in
theorem Fold_any (key : List UInt8) (L : List ByteArray) (A : Option Addr) (n c B : Nat) (LA : Option Addr) (lc : Nat) (R : Nat → Prop) (w : World) (hr : Reads w B 1 A n (bv key)) (hB : B ≤ w.heap.size) (hn : n ≤ 140737488351232) (hp : Strs w R LA L) (hR : ∀ k, R k → k < w.heap.size)
    (hlen : L.length ≤ 140737488351232) (hsz : ∀ s ∈ L, s.size ≤ 140737488351232) :
    Calls Tryz.prog 55 #[.slice A n c, .slice LA L.length lc] w (RowOut (foldB key (bytesOf L)) w) := by
  have hkl : key.length = n := by have := hr.1; rw [length_bv] at this; omega
  have hc := Lib.hid (bClone_any A n c B key w hr hB (by omega))
  have HKL := Lib.hid hkl
  have HP := Lib.hid hp
  have HR := Lib.hid hR
  have HSZ := Lib.hid hsz
  clear hr hkl hp hR hsz
  go_enter Tryz.func55, Tryz.ntmps55
  go_wp2_with fail
  refine hc.out.mono ?_
  rintro e w1 ⟨A1, c1, rfl, hrow1, hb1⟩
  have HST := Lib.hid (show FoldRel w key L (.slice A1 key.length c1) (.int .i64 0) w1 from ⟨0, A1, _, c1, Nat.zero_le _, rfl, rfl, hrow1, hb1⟩)
  clear hrow1 hb1 hc
  go_wp2_with fail
  go_loopw [5, 7, 12] (fun s5 _ i wr => FoldRel w key L s5 i wr) (fun _ _ i _ => L.length - (intOf i).toNat)
  case atStart => exact HST.out
  case round =>
    clear HST
    obtain ⟨j, A2, n2, c2, hj, rfl, rfl, hrow, hb⟩ := hrel
    have hs2 := hb.size
    by_cases hlt : j < L.length
    · obtain ⟨pb, po, hPA, hpR, hpc⟩ := (HP.out.keep fun k hk => hb.block k (HR.out k hk)) (by omega)
      have hcj := hpc j hlt
      have hsj := HSZ.out L[j] (List.getElem_mem hlt)
      have HFN := Lib.hid (fold_next key L j hlt)
      have hfl := fold_le key (by rw [HKL.out]; exact hn) (bytesOf (L.take j))
      generalize foldB key (bytesOf (L.take j)) = kk at hrow HFN hfl
      generalize L[j] = s at hcj hsj HFN
      have hkn : kk.length = n2 := by have := hrow.1; rw [length_bv] at this; omega
      have hn2 : n2 ≤ 140737488351232 := by omega
      have HROW := Lib.hid hrow
      have HB := Lib.hid hb
      clear hpc hfl hkn hrow hb
      subst hPA
      go_wp2_with fail
      refine (eight_any _ _).mono ?_
      rintro e w3 ⟨A3, c3, rfl, hrow3, hb3⟩
      obtain ⟨c4, w4, hrun4, hrow4, hb4⟩ := run_bytes_str (P := Tryz.prog) Tryz.underlying9 Tryz.underlying27 Tryz.underlying5 s (by unfold maxLen; omega) w3
      have HROW3 := Lib.hid hrow3
      have HB3 := Lib.hid hb3
      have HROW4 := Lib.hid hrow4
      have HB4 := Lib.hid hb4
      clear hrow3 hb3 hrow4 hb4
      go_wp2_with fail
      have hs3 := HB3.out.size
      have hs4 := HB4.out.size
      have hb34 := HB3.out.trans (HB4.out.mono hs3)
      have hm := Mac_any kk [Sha.eight s.size, s.data.toList] A2 n2 c2 wr.heap.size _ 2 _ (w4.alloc _) (((HROW.out.reads.below hb34).alloc (by omega) _)) (by simp; omega) hn2
        (Parts.two (t := 27) (R := fun k => k < w4.heap.size) (Part.of_row (HROW3.out.below HB4.out (Nat.le_refl _)) (by simp [Sha.length_eight]) fun ad e => by have := (HROW3.out.lt ad e).2; omega) (Part.of_row HROW4.out hsj fun ad e => (HROW4.out.lt ad e).2) (fun k hk => hk))
        (fun k hk => by simp; omega) (by simp) (by simp [Sha.length_eight]; omega)
      rw [show macB kk [Sha.eight s.size, s.data.toList].flatten = foldB key (bytesOf (L.take (j + 1))) by rw [HFN.out]; simp] at hm
      refine hm.mono ?_
      rintro e w5 ⟨A5, c5, rfl, hrow5, hb5⟩
      have HNX := Lib.hid (show FoldRel w key L (.slice A5 (foldB key (bytesOf (L.take (j + 1)))).length c5) (.int .i64 ((j : Int) + 1)) w5 from
        ⟨j + 1, A5, _, c5, by omega, by go_num, rfl, hrow5.mono (by simp; omega), ((HB.out.trans (hb34.mono hs2)).alloc (by omega) _).trans (hb5.mono (by simp; omega))⟩)
      clear hrow5 hb5 hm hb34
      go_wp2_with fail
      go_roundw
      case rel => exact HNX.out
      case measure => simp [intOf]; omega
    · obtain rfl : j = L.length := by omega
      have hl : (foldB key (bytesOf L)).length = n2 := by have := hrow.1; rw [length_bv, List.take_length] at this; omega
      rw [List.take_length] at hrow
      have HROW := Lib.hid hrow
      have HB := Lib.hid hb
      have HL := Lib.hid hl
      clear hrow hb hl
      go_wp2_with fail
      go_ret
      exact ⟨A2, c2, by rw [HL.out]; rfl, by rw [HL.out]; exact HROW.out, HB.out⟩
end Go.Proofs.YtogpnlfbdhddmaaGreatDoor
namespace Go.Proofs.YtogpnlfbdhddmaaGreatDoor
open Go.RowKit

/-- The call hands back bytes; nothing old has turned. -/
def OutV (l : List UInt8) (w : World) (e : Ending) (w' : World) : Prop := ∃ v, e = .returned v ∧ BytesV l v w' ∧ Grows w w'
theorem outV {l : List UInt8} {w : World} {e : Ending} {w' : World} (h : RowOut l w e w') : OutV l w e w' := by
  obtain ⟨A, c, rfl, hr, hb⟩ := h
  exact ⟨_, rfl, .of_row hr, hb⟩
theorem sSum_v (L : List (List UInt8)) (v : Value) (w : World) (h : ListV L v w) (hlen : L.length ≤ 140737488351232) (hsum : L.flatten.length ≤ 1152921504606846976) : Calls Tryz.prog 166 #[v] w (OutV (Sha.sum L.flatten) w) := by
  obtain ⟨A, c, B, rfl, hB, hp⟩ := h
  exact (sSum_any L A c _ w hp (fun k hk => by omega) hlen hsum).mono fun _ _ => outV
theorem Mac_v (key : List UInt8) (L : List (List UInt8)) (k v : Value) (w : World) (hk : BytesV key k w) (h : ListV L v w) (hkl : key.length ≤ 140737488351232) (hlen : L.length ≤ 140737488351232) (hsum : L.flatten.length ≤ 576460752303423488) :
    Calls Tryz.prog 87 #[k, v] w (OutV (macB key L.flatten) w) := by
  obtain ⟨A, c, B, rfl, hB, hp⟩ := h
  obtain ⟨A2, n, c2, B2, rfl, hl, _, hB2, hr⟩ := hk
  exact (Mac_any key L A2 n c2 B2 A c _ w hr hB2 (by omega) hp (fun k hk => by omega) hlen hsum).mono fun _ _ => outV

/-- The value lists these strings. -/
def StrsV (L : List ByteArray) (v : Value) (w : World) : Prop := ∃ A c B, v = .slice A L.length c ∧ L.length ≤ c ∧ B ≤ w.heap.size ∧ Strs w (· < B) A L
theorem StrsV.grows {L : List ByteArray} {v : Value} {w w' : World} (h : StrsV L v w) (g : Grows w w') : StrsV L v w' := by
  obtain ⟨A, c, B, e, hc, hB, hp⟩ := h
  exact ⟨A, c, B, e, hc, Nat.le_trans hB g.size, hp.keep fun k hk => g.block k (by omega)⟩
theorem st_strs (L : List ByteArray) : Stable (StrsV L) := fun _ _ _ h g => h.grows g
theorem Strs.take {w : World} {R : Nat → Prop} {A : Option Addr} {L : List ByteArray} (h : Strs w R A L) (k : Nat) : Strs w R A (L.take k) := fun hn => by
  obtain ⟨b, o, e, hR, hc⟩ := h (by simp at hn; omega)
  exact ⟨b, o, e, hR, fun i hi => by rw [List.getElem_take]; exact hc i (by simp at hi; omega)⟩
theorem Strs.drop {w : World} {R : Nat → Prop} {A : Option Addr} {L : List ByteArray} (h : Strs w R A L) {k cap : Nat} (hc : L.length ≤ cap) : Strs w R (if cap = k then A else A.map (·.add (k * 1))) (L.drop k) := fun hn => by
  obtain ⟨b, o, rfl, hR, hcell⟩ := h (by simp at hn; omega)
  have hlt : k < L.length := by simp at hn; omega
  rw [if_neg (by omega)]
  refine ⟨b, o + k, by simp [add_plain], hR, fun i hi => ?_⟩
  rw [List.getElem_drop, Nat.add_assoc]
  exact hcell _ (by simp at hi; omega)
theorem StrsV.drew {L : List ByteArray} {v : Value} {w : World} (h : StrsV L v w) : StrsV L v w.drew := h.grows ((Below.refl _ _).drew)
theorem StrsV.head {L : List ByteArray} {A : Option Addr} {n c k : Nat} {w : World} (h : StrsV L (.slice A n c) w) (hk : k ≤ n) : StrsV (L.take k) (.slice A k c) w := by
  obtain ⟨A', c', B, e, hc, hB, hr⟩ := h
  injection e with e1 e2 e3
  subst e1 e2 e3
  have hl : (L.take k).length = k := by simp; omega
  exact ⟨_, _, B, by rw [hl], by omega, hB, hr.take k⟩
theorem StrsV.cut {L : List ByteArray} {A : Option Addr} {n c k : Nat} {w : World} (h : StrsV L (.slice A n c) w) (hk : k ≤ n) : StrsV (L.drop k) (.slice (if c = k then A else A.map (·.add k)) (n - k) (c - k)) w := by
  obtain ⟨A', c', B, e, hc, hB, hr⟩ := h
  injection e with e1 e2 e3
  subst e1 e2 e3
  have hd := hr.drop (k := k) hc
  rw [Nat.mul_one] at hd
  have hl : (L.drop k).length = L.length - k := by simp
  exact ⟨_, _, B, by rw [hl], by omega, hB, hd⟩
theorem StrsV.nil_ (w : World) : StrsV [] (.slice none 0 0) w := ⟨none, 0, 0, rfl, Nat.le_refl _, Nat.zero_le _, fun h => absurd h (by simp)⟩
theorem Fold_v (key : List UInt8) (L : List ByteArray) (k v : Value) (w : World) (hk : BytesV key k w) (h : StrsV L v w) (hkl : key.length ≤ 140737488351232) (hlen : L.length ≤ 140737488351232) (hsz : ∀ s ∈ L, s.size ≤ 140737488351232) :
    Calls Tryz.prog 55 #[k, v] w (OutV (foldB key (bytesOf L)) w) := by
  obtain ⟨A, c, B, rfl, _, hB, hp⟩ := h
  obtain ⟨A2, n, c2, B2, rfl, hl, _, hB2, hr⟩ := hk
  exact (Fold_any key L A2 n c2 B2 A c _ w hr hB2 (by omega) hp (fun k hk => by omega) hlen hsz).mono fun _ _ => outV
end Go.Proofs.YtogpnlfbdhddmaaGreatDoor
