/- GENERAL: copy and append said in the words Row and Reads; worlds that part in the cells of some blocks alone. -/
import Derived.Test.YtiijjpjkfiookaaDoorMem
import Derived.OwnWalk
namespace Go.Proofs.YtiijjpjkfiookaaDoor
open Go.RowKit

/-- w' is w but for what the cells of the blocks S hold: no block has come or gone, nothing was frozen or let go. -/
structure Only (S : Nat → Prop) (w w' : World) : Prop where
  os : w'.os = w.os
  tape : w'.tape = w.tape
  output : w'.output = w.output
  size : w'.heap.size = w.heap.size
  block : ∀ k, ¬ S k → w'.heap[k]? = w.heap[k]?
  frozen : ∀ a, w'.frozen? a = w.frozen? a
  there : ∀ a, (w'.cell? a).isSome = (w.cell? a).isSome

theorem isSome_setCell (w : World) (p q : Addr) (u : Value) (hp : (w.cell? p).isSome = true) : ((w.setCell p u).cell? q).isSome = (w.cell? q).isSome := by
  by_cases e : q = p
  · subst e
    obtain ⟨v, hv⟩ := Option.isSome_iff_exists.1 hp
    rw [World.cell?_setCell_same w _ _ hv, hv]; rfl
  · rw [World.cell?_setCell_other w p q u (fun h => e h.symm)]

namespace Only
variable {S T : Nat → Prop} {w w' w'' : World}
theorem refl (S : Nat → Prop) (w : World) : Only S w w := ⟨rfl, rfl, rfl, rfl, fun _ _ => rfl, fun _ => rfl, fun _ => rfl⟩
theorem trans (h : Only S w w') (k : Only S w' w'') : Only S w w'' :=
  ⟨k.os.trans h.os, k.tape.trans h.tape, k.output.trans h.output, k.size.trans h.size, fun i hi => (k.block i hi).trans (h.block i hi), fun a => (k.frozen a).trans (h.frozen a), fun a => (k.there a).trans (h.there a)⟩
theorem drew (h : Only S w w') : Only S w w'.drew := ⟨h.os, h.tape, h.output, h.size, h.block, h.frozen, h.there⟩
theorem drewN (h : Only S w w') (n : Nat) : Only S w (w'.drewN n) := ⟨h.os, h.tape, h.output, h.size, h.block, h.frozen, h.there⟩
theorem mono (h : Only S w w') (hs : ∀ k, S k → T k) : Only T w w' := ⟨h.os, h.tape, h.output, h.size, fun k hk => h.block k (fun hh => hk (hs k hh)), h.frozen, h.there⟩
theorem setCell (h : Only S w w') {p : Addr} (hp : S p.block) (hc : (w'.cell? p).isSome = true) (u : Value) : Only S w (w'.setCell p u) :=
  h.trans ⟨rfl, rfl, rfl, by simp [World.setCell], fun _ hk => Below.heap_setCell _ _ _ _ (fun e => hk (e ▸ hp)), fun _ => frozen?_setCell _ _ _ _, fun _ => isSome_setCell _ _ _ _ hc⟩
theorem below (h : Only S w w') {B : Nat} (hB : ∀ k, S k → B ≤ k) : Below B w w' :=
  ⟨h.os, h.tape, h.output, Nat.le_of_eq h.size.symm, fun k hk => h.block k (fun hs => by have := hB k hs; omega)⟩
theorem cell (h : Only S w w') {a : Addr} (ha : ¬ S a.block) : w'.cell? a = w.cell? a := World.cell?_of_block (h.block _ ha)
theorem setCells {b : Nat} (hb : S b) : ∀ (vs : List Value) (o : Nat) {w' : World} (_ : Only S w w') (_ : ∀ j, j < vs.length → (w'.cell? ⟨b, o + j, none⟩).isSome = true), Only S w (w'.setCells b o vs)
  | [], _, _, h, _ => h
  | v :: r, o, w', h, hc => by
    have h0 : (w'.cell? ⟨b, o, none⟩).isSome = true := by simpa using hc 0 (by simp)
    refine setCells hb r (o + 1) (h.setCell (p := ⟨b, o, none⟩) hb h0 v) fun j hj => ?_
    rw [isSome_setCell _ _ _ _ h0, show o + 1 + j = o + (j + 1) by omega]
    exact hc (j + 1) (by simp; omega)
end Only

theorem cell?_new (w : World) (cs : Array Value) (t : TypeId) (j : Nat) : (w.alloc (.cells cs t)).cell? ⟨w.heap.size, j, none⟩ = cs[j]? := by
  have e := (MapKept.heap_alloc w (.cells cs t)).1
  simp only [World.cell?]
  rw [e]
  rfl
theorem frozen?_new (w : World) (cs : Array Value) (t : TypeId) (j : Nat) : (w.alloc (.cells cs t)).frozen? ⟨w.heap.size, j, none⟩ = false := by
  have e := (MapKept.heap_alloc w (.cells cs t)).1
  simp only [World.frozen?]
  rw [e]
  simp

section
variable {S : Nat → Prop} {w w' : World} {base B size n cap : Nat} {A : Option Addr} {xs : List Value}
theorem Row.only (h : Row w base size A n cap xs) (ho : Only S w w') (hs : ∀ ad, A = some ad → ¬ S ad.block) : Row w' base size A n cap xs :=
  h.of_block fun ad e => ho.block _ (hs ad e)
theorem Reads.only (h : Reads w B size A n xs) (ho : Only S w w') (hs : ∀ k, k < B → ¬ S k) : Reads w' B size A n xs :=
  h.keep fun _ hp => ho.cell (hs _ hp)
/-- Whatever its cells hold now, it is a row still. -/
theorem Row.any (h : Row w base size A n cap xs) (ho : Only S w w') : ∃ ys, Row w' base size A n cap ys := by
  obtain ⟨h1, h2, h3, h4, h5⟩ := h
  cases A with
  | none => exact ⟨xs, h1, h2, h3, h4, (fun ad e => by cases e)⟩
  | some ad =>
    obtain ⟨g, o, rfl, hg, hlt, hr, hc⟩ := h5 _ rfl
    refine ⟨(List.range (n * size)).map fun j => (w'.cell? ⟨g, o + j, none⟩).getD undef, by simp, h2, h3, (fun e => by cases e), fun ad e => ?_⟩
    simp only [Option.some.injEq] at e
    subst e
    refine ⟨g, o, rfl, hg, by rw [ho.size]; exact hlt, fun j hj => by rw [ho.there, ho.frozen]; exact hr j hj, fun j u hu => ?_⟩
    obtain ⟨hj, hv⟩ := List.getElem?_eq_some_iff.1 hu
    simp only [List.length_map, List.length_range] at hj
    have := (hr j (Nat.lt_of_lt_of_le hj (Nat.mul_le_mul_right _ h2))).1
    rw [← ho.there] at this
    obtain ⟨v, hv'⟩ := Option.isSome_iff_exists.1 this
    rw [hv', ← hv]
    simp [hv']
theorem Reads.lit (w : World) (cs : Array Value) (t : TypeId) (hn : cs.size = n * size) : Reads (w.alloc (.cells cs t)) (w.heap.size + 1) size (some ⟨w.heap.size, 0, none⟩) n cs.toList := by
  refine ⟨by simpa using hn, fun _ => ⟨_, _, rfl, by omega, fun j u hu => ?_⟩⟩
  rw [Nat.zero_add]
  rw [Array.getElem?_toList] at hu
  rw [cell?_new, hu]
theorem Row.lit (w : World) (cs : Array Value) (t : TypeId) (hn : cs.size = n * size) (hb : base ≤ w.heap.size) (hm : n ≤ maxLen) : Row (w.alloc (.cells cs t)) base size (some ⟨w.heap.size, 0, none⟩) n n cs.toList := by
  refine ⟨by simpa using hn, Nat.le_refl _, hm, (fun e => by cases e), fun ad e => ?_⟩
  simp only [Option.some.injEq] at e
  subst e
  refine ⟨_, _, rfl, hb, by simp, fun j hj => ?_, fun j u hu => ?_⟩
  · rw [Nat.zero_add]
    rw [cell?_new, frozen?_new]
    exact ⟨by simp [hn, hj], rfl⟩
  · rw [Nat.zero_add]
    rw [Array.getElem?_toList] at hu
    rw [cell?_new, hu]
end

/-- The cell behind the last one written: one element more. -/
theorem Row.ext1 {w : World} {base n cap g o : Nat} {xs : List Value} (h : Row w base 1 (some ⟨g, o, none⟩) n cap xs) (hn : n < cap) (u : Value) : Row (w.setCell ⟨g, o + n, none⟩ u) base 1 (some ⟨g, o, none⟩) (n + 1) cap (xs ++ [u]) := by
  obtain ⟨hb, hlt, hcell, hx⟩ := h.at_
  have hxl : xs.length = n := by have := h.1; omega
  obtain ⟨v, hv⟩ := Option.isSome_iff_exists.1 (hcell n (by omega)).1
  refine ⟨by simp [hxl], hn, h.2.2.1, (fun e => by cases e), fun ad e => ?_⟩
  simp only [Option.some.injEq] at e
  subst e
  refine ⟨g, o, rfl, hb, by simpa [World.setCell] using hlt, fun j hj => by rw [isSome_setCell _ _ _ _ (by rw [hv]; rfl), frozen?_setCell]; exact hcell j hj, fun j z hz => ?_⟩
  rcases Nat.lt_or_ge j n with hj | hj
  · rw [World.cell?_setCell_other w _ _ u (by simp only [ne_eq, Addr.mk.injEq, and_true, true_and]; omega)]
    rw [List.getElem?_append_left (by omega)] at hz
    exact hx j z hz
  · have hj2 : j < n + 1 := by have := (List.getElem?_eq_some_iff.1 hz).1; simp [hxl] at this; omega
    obtain rfl : j = n := by omega
    rw [World.cell?_setCell_same w _ _ hv]
    rw [List.getElem?_append_right (by omega)] at hz
    simpa [hxl] using hz

/-! ### copy -/
theorem run_copy_any {P : Program} {dT sT ty elem : TypeId} (hu : P.underlying dT = some (.slice elem)) (hs : (P.info? elem).map (·.size) = some 1)
    {w : World} {base n cap g o : Nat} {xs : List Value} (hd : Row w base 1 (some ⟨g, o, none⟩) n cap xs) {B m c : Nat} {A : Option Addr} {ys : List Value} (hr : Reads w B 1 A m ys) (h1 : ∀ v ∈ ys, v.oneCell' = true) :
    ∃ w', (Builtin.copy_ #[dT, sT] ty #[.slice (some ⟨g, o, none⟩) n cap, .slice A m c]).run P w = .ok (goInt (Nat.min m n : Nat)) w' ∧
      Row w' base 1 (some ⟨g, o, none⟩) n cap (ys.take (Nat.min m n) ++ xs.drop (Nat.min m n)) ∧ Only (· = g) w w' := by
  obtain ⟨hb, hlt, hcell, hx⟩ := hd.at_
  have hxl : xs.length = n := by have := hd.1; omega
  have hyl : ys.length = m := by have := hr.1; omega
  have hnc := hd.2.1
  by_cases h0 : Nat.min m n = 0
  · exact ⟨w, by rw [h0]; exact run_copy_none w dT sT ty elem _ _ n cap m c hu hs h0, by rw [h0]; simpa using hd, Only.refl _ _⟩
  · have hm0 : 0 < m := by rcases Nat.eq_zero_or_pos m with h | h; · subst h; exact absurd (Nat.zero_min n) h0
                           · exact h
    obtain ⟨b2, o2, rfl, _, hsrc⟩ := hr.2 hm0
    have hk1 : Nat.min m n ≤ m := Nat.min_le_left _ _
    have hk2 : Nat.min m n ≤ n := Nat.min_le_right _ _
    generalize hk : Nat.min m n = k at *
    have hcl : (ys.take k).length = k := by rw [List.length_take]; omega
    have hrun := run_copy_cells (P := P) w dT sT ty elem g o n cap ⟨b2, o2, none⟩ m c (ys.take k) hu hs (by rw [hcl]; exact hk.symm) (fun j v hj => by
      rw [add_plain]
      rw [List.getElem?_take] at hj
      split at hj
      · exact hsrc j v hj
      · cases hj) (fun j hj => (hcell j (by omega)).1) (fun j hj => (hcell j (by omega)).2) (fun v hv => h1 v (List.mem_of_mem_take hv))
    rw [hcl] at hrun
    have hon : Only (· = g) w (w.setCells g o (ys.take k)) := Only.setCells (S := (· = g)) rfl _ _ (Only.refl _ _) fun j hj => (hcell j (by omega)).1
    refine ⟨_, hrun, ⟨by rw [List.length_append, hcl, List.length_drop]; omega, hnc, hd.2.2.1, (fun e => by cases e), fun ad e => ?_⟩, hon⟩
    simp only [Option.some.injEq] at e
    subst e
    refine ⟨g, o, rfl, hb, by rw [hon.size]; exact hlt, fun j hj => by rw [hon.there, hon.frozen]; exact hcell j hj, fun j u hu' => ?_⟩
    rcases Nat.lt_or_ge j k with hj | hj
    · have := World.cell?_setCells_in g (ys.take k) o w (fun i hi => (hcell i (by omega)).1) j (by omega)
      rw [this]
      rw [List.getElem?_append_left (by omega), List.getElem?_eq_getElem (by omega)] at hu'
      exact hu'
    · rw [World.cell?_setCells_out g (ys.take k) o w ⟨g, o + j, none⟩ (fun _ _ => .inr (by rw [hcl]; show o + k ≤ o + j; omega))]
      rw [List.getElem?_append_right (by omega), hcl, List.getElem?_drop, show k + (j - k) = j by omega] at hu'
      exact hx j u hu'

theorem wpList_copy_any {P : Program} {w : World} {ops : Array Oper} {rest : List Oper} {o : Oper} {a : Act} {Q : Exit → Act → World → Prop} (hgd : o.guard = none) (d s : Operand) (dT sT : TypeId)
    (ho : o.op = .call { callee := .builtin .copy, args := #[d, s], argTypes := #[dT, sT] }) {elem : TypeId} (hu : P.underlying dT = some (.slice elem)) (hsz : (P.info? elem).map (·.size) = some 1)
    {base n cap g off : Nat} {xs : List Value} (hd : a.eval d = .slice (some ⟨g, off, none⟩) n cap) (hrow : Row w base 1 (some ⟨g, off, none⟩) n cap xs)
    {B m c : Nat} {A : Option Addr} {ys : List Value} (hs : a.eval s = .slice A m c) (hr : Reads w B 1 A m ys) (h1 : ∀ v ∈ ys, v.oneCell' = true)
    (h : ∀ w', Row w' base 1 (some ⟨g, off, none⟩) n cap (ys.take (Nat.min m n) ++ xs.drop (Nat.min m n)) → Only (· = g) w w' → wpList P ops Q rest (a.put o.dst (goInt (Nat.min m n : Nat))) w') :
    wpList P ops Q (o :: rest) a w := by
  refine wpList_plain hgd fun K hK => ?_
  obtain ⟨w', hrun, h2, h3⟩ := run_copy_any (P := P) (sT := sT) (ty := o.type) (c := c) hu hsz hrow hr h1
  unfold Oper.wp
  simp only [execOp, ho, resolve, invoke, builtin, Sem.run_bind, Sem.run_pure, Result.andThen_ok, List.map_toArray, List.map_cons, List.map_nil, hd, hs, hrun]
  exact hK _ _ (h w' h2 h3)

/-! ### append -/
theorem run_append_row {P : Program} {t ty e : TypeId} {i : TypeInfo} {z : Value} {size bytes : Nat} (ht : P.underlying t = some (.slice e)) (hi : P.info? e = some i) (hz : i.zero = some z)
    (hsize : i.size = size) (hby : i.bytes = bytes) (hzs : z.cells.size = size) (hsz : 0 < size)
    {w : World} {base n cap : Nat} {A : Option Addr} {xs : List Value} (hd : Row w base size A n cap xs) {B m c : Nat} {A2 : Option Addr} {ys : List Value} (hr : Reads w B size A2 m ys) (h1 : ∀ v ∈ ys, v.oneCell' = true)
    (h63 : n + m ≤ maxLen) (hbytes : (n + m) * bytes ≤ 140737488355328) (hbase : base ≤ w.heap.size) :
    ∃ A' cap' w', (Builtin.append_ #[t, t] ty #[.slice A n cap, .slice A2 m c]).run P w = .ok (.slice A' (n + m) cap') w' ∧ Row w' base size A' (n + m) cap' (xs ++ ys) ∧ w.grownBy w' (A.map (·.block)) ∧
      (A' = A ∨ ∃ ad, A' = some ad ∧ w.heap.size ≤ ad.block) := by
  have hxl := hd.1
  have hyl := hr.1
  by_cases hm0 : m = 0
  · -- nothing is appended
    subst hm0
    have hy : ys = [] := List.eq_nil_of_length_eq_zero (by simpa using hyl)
    subst hy
    refine ⟨A, cap, w, ?_, by simpa using hd, ⟨rfl, rfl, rfl, Nat.le_refl _, fun _ _ _ => rfl⟩, .inl rfl⟩
    have hnc := hd.2.1
    have hl0 : ∀ x : Addr, (loadCells x 0).run P w = .ok #[] w := fun x => by simpa using run_loadCells_list (P := P) w x [] (by simp)
    cases A2 <;> cases A <;> simp [Builtin.append_, run_underlying ht, sizeOf, typeInfo, hi, Builtin.lenOf, Builtin.firstCells, hnc, storeCells, hl0]
  · obtain ⟨b2, o2, rfl, _, hsrc⟩ := hr.2 (by omega)
    have hsrc' : ∀ j u, ys[j]? = some u → w.cell? ((⟨b2, o2, none⟩ : Addr).add j) = some u := fun j u hu => by rw [add_plain]; exact hsrc j u hu
    cases hA : A with
    | none =>
      subst hA
      have hc0 := hd.2.2.2.1 rfl
      have hnc := hd.2.1
      obtain rfl : cap = 0 := hc0
      obtain rfl : n = 0 := by omega
      obtain rfl : xs = [] := List.eq_nil_of_length_eq_zero (by simpa using hxl)
      obtain ⟨v', w', hrun, hown, hgr, _⟩ := run_append_own (P := P) w w.heap.size t ty e i z size bytes ht hi hz hsize hby hzs hsz (.slice none 0 0) 0 [] (World.ownsRow_nil w _ e size) ⟨b2, o2, none⟩ m c ys hyl hsrc' h1 h63 hbytes (Nat.le_refl _)
      obtain ⟨A', cap', rfl, hrow⟩ := Row.of_own hown
      have hat : A' = none ∨ ∃ ad, A' = some ad ∧ w.heap.size ≤ ad.block := by
        cases A' with
        | none => exact .inl rfl
        | some ad => exact .inr ⟨ad, rfl, (hrow.lt ad rfl).1⟩
      exact ⟨A', cap', w', hrun, hrow.mono hbase, hgr, hat⟩
    | some ad =>
      subst hA
      obtain ⟨g, o, rfl, hg, hlt, hcell, hx⟩ := hd.2.2.2.2 _ rfl
      by_cases hroom : n + m ≤ cap
      · have hsp : ∀ j, j < ys.length → n * size + j < cap * size := fun j hj => by
          have h2 : (n + m) * size ≤ cap * size := Nat.mul_le_mul_right _ hroom
          rw [Nat.add_mul] at h2
          omega
        have hrun := run_append_room_cells (P := P) w t ty e i ht hi g o n cap ⟨b2, o2, none⟩ m c ys (by rw [hsize]; exact hyl) hsrc' h1 hroom
          (fun j hj => by rw [hsize, Nat.add_assoc]; exact (hcell _ (hsp j hj)).1) (fun j hj => by rw [hsize, Nat.add_assoc]; exact (hcell _ (hsp j hj)).2)
        rw [hsize] at hrun
        have hon : Only (· = g) w (w.setCells g (o + n * size) ys) := Only.setCells (S := (· = g)) rfl _ _ (Only.refl _ _) fun j hj => by rw [Nat.add_assoc]; exact (hcell _ (hsp j hj)).1
        refine ⟨_, cap, _, hrun, ⟨by rw [List.length_append, hxl, hyl, Nat.add_mul], hroom, hd.2.2.1, (fun e => by cases e), fun ad e => ?_⟩, ⟨hon.os, hon.tape, hon.output, Nat.le_of_eq hon.size.symm, fun k _ hk => hon.block k (fun e => hk (by rw [e]; rfl))⟩, .inl rfl⟩
        simp only [Option.some.injEq] at e
        subst e
        refine ⟨g, o, rfl, hg, by rw [hon.size]; exact hlt, fun j hj => by rw [hon.there, hon.frozen]; exact hcell j hj, fun j u hu => ?_⟩
        rcases Nat.lt_or_ge j (n * size) with hj | hj
        · rw [World.cell?_setCells_out g ys (o + n * size) w ⟨g, o + j, none⟩ (fun _ _ => .inl (by show o + j < o + n * size; omega))]
          rw [List.getElem?_append_left (by omega)] at hu
          exact hx j u hu
        · rw [List.getElem?_append_right (by omega), hxl] at hu
          have hj2 : j - n * size < ys.length := (List.getElem?_eq_some_iff.1 hu).1
          have := World.cell?_setCells_in g ys (o + n * size) w (fun i hi => by rw [Nat.add_assoc]; exact (hcell _ (hsp i hi)).1) (j - n * size) hj2
          rw [show o + n * size + (j - n * size) = o + j by omega] at this
          rw [this, ← hu, List.getElem?_eq_getElem hj2]
      · obtain ⟨v', w', hrun, hown, hgr⟩ := run_append_arg_grows (P := P) w t ty e i z size bytes ht hi hz hsize hby hzs hsz ⟨g, o, none⟩ n cap xs hxl (fun j u hj => by rw [add_plain]; exact hx j u hj) ⟨b2, o2, none⟩ m c ys hyl hsrc' (by omega) h63 hbytes
        obtain ⟨A', cap', rfl, hrow⟩ := Row.of_own hown
        refine ⟨A', cap', w', hrun, hrow.mono hbase, ⟨hgr.os, hgr.tape, hgr.output, hgr.size, fun k hk _ => hgr.block k hk (by simp)⟩, ?_⟩
        cases A' with
        | none =>
          have := hrow.2.2.2.1 rfl
          have := hrow.2.1
          omega
        | some ad => exact .inr ⟨ad, rfl, (hrow.lt ad rfl).1⟩

theorem wpList_append_row {P : Program} {ops : Array Oper} {rest : List Oper} {o : Oper} {a : Act} {Q : Exit → Act → World → Prop} (hgd : o.guard = none) (s x : Operand) {t : TypeId}
    (ho : o.op = .call { callee := .builtin .append, args := #[s, x], argTypes := #[t, t] })
    {e : TypeId} {i : TypeInfo} {z : Value} {size bytes : Nat} (ht : P.underlying t = some (.slice e)) (hi : P.info? e = some i) (hz : i.zero = some z)
    (hsize : i.size = size) (hby : i.bytes = bytes) (hzs : z.cells.size = size) (hsz : 0 < size)
    {w : World} {base n cap : Nat} {A : Option Addr} {xs : List Value} (hs : a.eval s = .slice A n cap) (hd : Row w base size A n cap xs)
    {B m c : Nat} {A2 : Option Addr} {ys : List Value} (hx : a.eval x = .slice A2 m c) (hr : Reads w B size A2 m ys) (h1 : ∀ v ∈ ys, v.oneCell' = true)
    (h63 : n + m ≤ maxLen) (hbytes : (n + m) * bytes ≤ 140737488355328) (hbase : base ≤ w.heap.size)
    (h : ∀ A' cap' w', Row w' base size A' (n + m) cap' (xs ++ ys) → w.grownBy w' (A.map (·.block)) → (A' = A ∨ ∃ ad, A' = some ad ∧ w.heap.size ≤ ad.block) → wpList P ops Q rest (a.put o.dst (.slice A' (n + m) cap')) w') :
    wpList P ops Q (o :: rest) a w := by
  refine wpList_plain hgd fun K hK => ?_
  obtain ⟨A', cap', w', hrun, h2, h3, h4⟩ := run_append_row (P := P) (ty := o.type) (c := c) ht hi hz hsize hby hzs hsz hd hr h1 h63 hbytes hbase
  unfold Oper.wp
  simp only [execOp, ho, resolve, invoke, builtin, Sem.run_bind, Sem.run_pure, Result.andThen_ok, List.map_toArray, List.map_cons, List.map_nil, hs, hx, hrun]
  exact hK _ _ (h A' cap' w' h2 h3 h4)
end Go.Proofs.YtiijjpjkfiookaaDoor
