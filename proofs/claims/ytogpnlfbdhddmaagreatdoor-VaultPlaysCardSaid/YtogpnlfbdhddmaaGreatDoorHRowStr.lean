/- GENERAL: append of a string's bytes to a row. -/
import Derived.Test.YtogpnlfbdhddmaaGreatDoorGMem
import Derived.Lib.AppendStr
namespace Go.Proofs.YtogpnlfbdhddmaaGreatDoor
open Go.RowKit

theorem strCells_bv (s : ByteArray) : Go.Lib.strCells s = bv s.data.toList := rfl
theorem length_str (s : ByteArray) : (bv s.data.toList).length = s.size := by rw [← strCells_bv, Go.Lib.strCells_length]
theorem run_append_row_str {P : Program} {t u ty e : TypeId} {i : TypeInfo} (ht : P.underlying t = some (.slice e)) (hu : P.underlying u = some .string) (hi : P.info? e = some i) (hz : i.zero = some (.int .u8 0))
    (hsize : i.size = 1) (hby : i.bytes = 1)
    {w : World} {base n cap : Nat} {A : Option Addr} {xs : List Value} (hd : Row w base 1 A n cap xs) (s : ByteArray)
    (h63 : n + s.size ≤ maxLen) (hbytes : n + s.size ≤ 140737488355328) (hbase : base ≤ w.heap.size) :
    ∃ A' cap' w', (Builtin.append_ #[t, u] ty #[.slice A n cap, .string s]).run P w = .ok (.slice A' (n + s.size) cap') w' ∧ Row w' base 1 A' (n + s.size) cap' (xs ++ bv s.data.toList) ∧ w.grownBy w' (A.map (·.block)) ∧
      (A' = A ∨ ∃ ad, A' = some ad ∧ w.heap.size ≤ ad.block) := by
  have hxl : xs.length = n := by have := hd.1; omega
  have hyl := length_str s
  have hone := Go.Lib.strCells_oneCell s
  rw [strCells_bv] at hone
  cases hA : A with
  | none =>
    subst hA
    have hc0 := hd.2.2.2.1 rfl
    have hnc := hd.2.1
    obtain rfl : cap = 0 := hc0
    obtain rfl : n = 0 := by omega
    obtain rfl : xs = [] := List.eq_nil_of_length_eq_zero hxl
    obtain ⟨v', w', hrun, hown, hgr, _⟩ := Go.Lib.run_append_own_string (P := P) w w.heap.size t u ty e i ht hu hi hz hsize hby (.slice none 0 0) 0 [] (World.ownsRow_nil w _ e 1) s h63 hbytes (Nat.le_refl _)
    obtain ⟨A', cap', rfl, hrow⟩ := Row.of_own hown
    have hat : A' = none ∨ ∃ ad, A' = some ad ∧ w.heap.size ≤ ad.block := by
      cases A' with
      | none => exact .inl rfl
      | some ad => exact .inr ⟨ad, rfl, (hrow.lt ad rfl).1⟩
    exact ⟨A', cap', w', hrun, hrow.mono hbase, hgr, hat⟩
  | some ad =>
    subst hA
    obtain ⟨g, o, rfl, hg, hlt, hcell, hx⟩ := hd.2.2.2.2 _ rfl
    by_cases hroom : n + s.size ≤ cap
    · have hsp : ∀ j, j < (bv s.data.toList).length → n + j < cap * 1 := fun j hj => by rw [hyl] at hj; omega
      have hf := Go.Lib.run_firstCells_string (P := P) w 1 s
      have hst := run_storeCells_cells (P := P) g (o + n) (bv s.data.toList) 0 w (fun j hj => by rw [Nat.add_zero, Nat.add_assoc]; exact (hcell _ (hsp j hj)).1) (fun j hj => by rw [Nat.add_zero, Nat.add_assoc]; exact (hcell _ (hsp j hj)).2) hone
      simp only [Nat.add_zero] at hst
      have hrun : (Builtin.append_ #[t, u] ty #[.slice (some ⟨g, o, none⟩) n cap, .string s]).run P w = .ok (.slice (some ⟨g, o, none⟩) (n + s.size) cap) (w.setCells g (o + n) (bv s.data.toList)) := by
        rw [strCells_bv] at hf
        simp [Builtin.append_, run_underlying ht, run_underlying hu, sizeOf, typeInfo, hi, hsize, Builtin.lenOf, hroom, hf, Addr.add_lit, hst]
      have hon : Only (· = g) w (w.setCells g (o + n) (bv s.data.toList)) := Only.setCells (S := (· = g)) rfl _ _ (Only.refl _ _) fun j hj => by rw [Nat.add_assoc]; exact (hcell _ (hsp j hj)).1
      refine ⟨_, cap, _, hrun, ⟨by rw [List.length_append, hxl, hyl, Nat.mul_one], hroom, hd.2.2.1, (fun e => by cases e), fun ad e => ?_⟩, ⟨hon.os, hon.tape, hon.output, Nat.le_of_eq hon.size.symm, fun k _ hk => hon.block k (fun e => hk (by rw [e]; rfl))⟩, .inl rfl⟩
      simp only [Option.some.injEq] at e
      subst e
      refine ⟨g, o, rfl, hg, by rw [hon.size]; exact hlt, fun j hj => by rw [hon.there, hon.frozen]; exact hcell j hj, fun j u hu => ?_⟩
      rcases Nat.lt_or_ge j n with hj | hj
      · rw [World.cell?_setCells_out g _ (o + n) w ⟨g, o + j, none⟩ (fun _ _ => .inl (by show o + j < o + n; omega))]
        rw [List.getElem?_append_left (by omega)] at hu
        exact hx j u hu
      · rw [List.getElem?_append_right (by omega), hxl] at hu
        have hj2 : j - n < (bv s.data.toList).length := (List.getElem?_eq_some_iff.1 hu).1
        have := World.cell?_setCells_in g (bv s.data.toList) (o + n) w (fun i hi => by rw [Nat.add_assoc]; exact (hcell _ (hsp i hi)).1) (j - n) hj2
        rw [show o + n + (j - n) = o + j by omega] at this
        rw [this, ← hu, List.getElem?_eq_getElem hj2]
    · have hr := Go.Lib.run_append_grow_string (P := P) w t u ty e i (.int .u8 0) ht hu hi hz ⟨g, o, none⟩ n cap xs (by rw [hsize]; omega) (fun j u hj => by rw [add_plain]; exact hx j u hj) s (by omega) (by unfold maxLen at h63; omega) (by rw [hby]; exact growslice_fits (by omega) (by omega))
      have hge := grownCap_ge w (n + s.size) cap e
      have hcm : grownCap w (n + s.size) cap e ≤ maxLen := grownCap_le_maxLen w (n + s.size) cap e h63
      have hlen : (xs ++ Go.Lib.strCells s).length = (n + s.size) * 1 := by rw [List.length_append, hxl, Go.Lib.strCells_length, Nat.mul_one]
      have hown : (w.drew.alloc (.cells (xs.toArray ++ (Go.Lib.strCells s).toArray ++ Builtin.zeroCells (Value.int .u8 0).cells (grownCap w (n + s.size) cap e - (n + s.size))) e)).ownsRow w.heap.size e 1
          (.slice (some ⟨w.heap.size, 0, none⟩) (n + s.size) (grownCap w (n + s.size) cap e)) (n + s.size) (xs ++ Go.Lib.strCells s) := by
        refine ⟨hlen, .inr ⟨w.heap.size, _, _, rfl, Nat.le_refl _, heap_alloc_new w.drew _, hge, hcm, ?_, ?_⟩⟩
        · have hz1 : (Value.int IntKind.u8 0).cells.size = 1 := rfl
          simp only [Array.size_append, List.size_toArray, size_zeroCells, hz1, hxl, Go.Lib.strCells_length]
          omega
        · simp only [Array.toList_append, List.append_assoc]
          rw [← List.append_assoc, ← hlen]
          exact List.take_left
      obtain ⟨A', cap', e', hrow⟩ := Row.of_own hown
      cases e'
      exact ⟨_, _, _, hr, hrow.mono hbase, ⟨rfl, rfl, rfl, by simp, fun k hk _ => heap_alloc_old w.drew _ hk⟩, .inr ⟨_, rfl, (hrow.lt _ rfl).1⟩⟩
theorem step_append_row_str {P : Program} {ops : Array Oper} {o : Oper} {a : Act} {K : Act → World → Prop} {Q : Exit → Act → World → Prop} {E : Prop} (hgd : o.guard = none) (sl x : Operand) {t u : TypeId}
    (ho : o.op = .call { callee := .builtin .append, args := #[sl, x], argTypes := #[t, u] })
    {e : TypeId} {i : TypeInfo} (ht : P.underlying t = some (.slice e)) (hu : P.underlying u = some .string) (hi : P.info? e = some i) (hz : i.zero = some (.int .u8 0))
    (hsize : i.size = 1) (hby : i.bytes = 1)
    {w : World} {base n cap : Nat} {A : Option Addr} {xs : List Value} (hs : a.eval sl = .slice A n cap) (hd : Row w base 1 A n cap xs) {s : ByteArray} (hx : a.eval x = .string s)
    (h63 : n + s.size ≤ maxLen) (hbytes : n + s.size ≤ 140737488355328) (hbase : base ≤ w.heap.size)
    (h : ∀ A' cap' w', Row w' base 1 A' (n + s.size) cap' (xs ++ bv s.data.toList) → w.grownBy w' (A.map (·.block)) → (A' = A ∨ ∃ ad, A' = some ad ∧ w.heap.size ≤ ad.block) → K (a.put o.dst (.slice A' (n + s.size) cap')) w') :
    if Region.wanted o (yielded ops a.tmps) = true then Oper.wp P o a w K Q else E := by
  have hw : Region.wanted o (yielded ops a.tmps) = true := by simp [Region.wanted, hgd]
  rw [if_pos hw]
  obtain ⟨A', cap', w', hrun, h2, h3, h4⟩ := run_append_row_str (P := P) (ty := o.type) ht hu hi hz hsize hby hd s h63 hbytes hbase
  unfold Oper.wp execOp
  simp only [ho, resolve, invoke, builtin, Sem.run_bind, Sem.run_pure, Result.andThen_ok, List.map_toArray, List.map_cons, List.map_nil, hs, hx, hrun]
  exact h A' cap' w' h2 h3 h4
theorem wpList_append_row_str {P : Program} {ops : Array Oper} {rest : List Oper} {o : Oper} {a : Act} {Q : Exit → Act → World → Prop} (hgd : o.guard = none) (sl x : Operand) {t u : TypeId}
    (ho : o.op = .call { callee := .builtin .append, args := #[sl, x], argTypes := #[t, u] })
    {e : TypeId} {i : TypeInfo} (ht : P.underlying t = some (.slice e)) (hu : P.underlying u = some .string) (hi : P.info? e = some i) (hz : i.zero = some (.int .u8 0))
    (hsize : i.size = 1) (hby : i.bytes = 1)
    {w : World} {base n cap : Nat} {A : Option Addr} {xs : List Value} (hs : a.eval sl = .slice A n cap) (hd : Row w base 1 A n cap xs) {s : ByteArray} (hx : a.eval x = .string s)
    (h63 : n + s.size ≤ maxLen) (hbytes : n + s.size ≤ 140737488355328) (hbase : base ≤ w.heap.size)
    (h : ∀ A' cap' w', Row w' base 1 A' (n + s.size) cap' (xs ++ bv s.data.toList) → w.grownBy w' (A.map (·.block)) → (A' = A ∨ ∃ ad, A' = some ad ∧ w.heap.size ≤ ad.block) → wpList P ops Q rest (a.put o.dst (.slice A' (n + s.size) cap')) w') :
    wpList P ops Q (o :: rest) a w := by
  refine wpList_plain hgd fun K hK => ?_
  obtain ⟨A', cap', w', hrun, h2, h3, h4⟩ := run_append_row_str (P := P) (ty := o.type) ht hu hi hz hsize hby hd s h63 hbytes hbase
  unfold Oper.wp
  simp only [execOp, ho, resolve, invoke, builtin, Sem.run_bind, Sem.run_pure, Result.andThen_ok, List.map_toArray, List.map_cons, List.map_nil, hs, hx, hrun]
  exact hK _ _ (h A' cap' w' h2 h3 h4)
end Go.Proofs.YtogpnlfbdhddmaaGreatDoor
