/- GENERAL: a region that draws its order, by what each operation yields: every operation is shown once, whatever else has been done. -/
import Derived.Orders
import Derived.Tactics
import Derived.Below
namespace Go.Proofs.YtiijjpjkfiookaaDoor
open Go

def slotOf (a : Act) : Option Tmp → Value
  | some d => a.tmps.getD d undef
  | none => undef

/-- What is read is bound; no slot is written twice; no operation waits for a later one. -/
def factsB (ops : Array Oper) : Bool :=
  (List.range ops.size).all fun i =>
    match ops[i]? with
    | none => false
    | some o =>
      (match o.op with | .select _ _ => false | _ => true) &&
      ((o.looksAt ops).all fun t => (List.range ops.size).all fun j =>
        match ops[j]? with
        | some oj => oj.dst != some t || (decide (j < i) && o.after.any fun e => Region.binds .any e && e.on == j)
        | none => true) &&
      (o.after.all fun e => !Region.binds .any e || decide (e.on < i)) &&
      ((List.range ops.size).all fun j => match ops[j]? with | some oj => j == i || oj.dst == none || oj.dst != o.dst | none => true)

/-- The frame behind these operations, with these values. -/
def fillTo (V : Nat → Value) : List Oper → Nat → Act → Act
  | [], _, a => a
  | o :: r, k, a => fillTo V r (k + 1) (a.put o.dst (V k))

section
variable {P : Program} {ops : Array Oper} {Q : Exit → Act → World → Prop}

theorem put_defers' (a : Act) (d : Option Tmp) (v : Value) : (a.put d v).defers = a.defers := by cases d <;> rfl
theorem put_size (a : Act) (d : Option Tmp) (v : Value) : (a.put d v).tmps.size = a.tmps.size := by cases d <;> simp [Act.put]
theorem put_other (a : Act) (d : Option Tmp) (v : Value) (t : Tmp) (h : d ≠ some t) : (a.put d v).tmps[t]? = a.tmps[t]? := by
  cases d with
  | none => rfl
  | some d =>
    have : d ≠ t := fun e => h (by rw [e])
    simp [Act.put, Array.getElem?_setIfInBounds_ne this]
theorem put_same (a : Act) (d : Tmp) (v : Value) (h : d < a.tmps.size) : (a.put (some d) v).tmps[d]? = some v := by
  simp [Act.put, h]
theorem fill_defers (V : Nat → Value) : ∀ (l : List Oper) (k : Nat) (a : Act), (fillTo V l k a).defers = a.defers
  | [], _, _ => rfl
  | o :: r, k, a => by rw [fillTo, fill_defers V r, put_defers']
theorem fill_size (V : Nat → Value) : ∀ (l : List Oper) (k : Nat) (a : Act), (fillTo V l k a).tmps.size = a.tmps.size
  | [], _, _ => rfl
  | o :: r, k, a => by rw [fillTo, fill_size V r, put_size]
theorem fill_other (V : Nat → Value) (t : Tmp) : ∀ (l : List Oper) (k : Nat) (a : Act), (∀ o ∈ l, o.dst ≠ some t) → (fillTo V l k a).tmps[t]? = a.tmps[t]?
  | [], _, _, _ => rfl
  | o :: r, k, a, h => by rw [fillTo, fill_other V t r (k + 1) _ (fun x hx => h x (List.mem_cons_of_mem _ hx)), put_other _ _ _ _ (h o (List.mem_cons_self ..))]
theorem fill_at (V : Nat → Value) (d : Tmp) : ∀ (l : List Oper) (k j : Nat) (a : Act) (o : Oper), l[j]? = some o → o.dst = some d → d < a.tmps.size → (∀ (i : Nat) (o' : Oper), l[i]? = some o' → i ≠ j → o'.dst ≠ some d) →
    (fillTo V l k a).tmps[d]? = some (V (k + j))
  | [], _, _, _, _, h, _, _, _ => by simp at h
  | x :: r, k, 0, a, o, h, hd, hs, ha => by
    simp only [List.getElem?_cons_zero, Option.some.injEq] at h
    subst h
    rw [fillTo, fill_other V d r (k + 1) _ (fun y hy => ?_), hd, put_same _ _ _ hs]
    · rfl
    · obtain ⟨i, hi⟩ := List.getElem?_of_mem hy
      exact ha (i + 1) y (by simpa using hi) (by omega)
  | x :: r, k, j + 1, a, o, h, hd, hs, ha => by
    rw [fillTo, fill_at V d r (k + 1) j _ o (by simpa using h) hd (by rw [put_size]; exact hs) (fun i o' hi hne => ha (i + 1) o' (by simpa using hi) (by omega))]
    congr 2
    omega

/-- What an operation must come to. -/
def StepQ (Q : Exit → Act → World → Prop) (R : Value → World → Prop) (a0 : Act) (dst : Option Tmp) : Exit → Act → World → Prop
  | .normal, a, w => a.defers = a0.defers ∧ R (slotOf a dst) w
  | .outgrown, a, w => Q .outgrown a w
  | _, _, _ => False
theorem stepQ_out (R : Value → World → Prop) (a0 : Act) (dst : Option Tmp) : LetsOut (StepQ Q R a0 dst) → LetsOut Q := fun ⟨a, w, h⟩ => ⟨a, w, h⟩

/-- An operation looks at the frame through its operands alone. -/
theorem upon_move {o : Oper} {R : Value → World → Prop} {a0 a b : Act} (hd : b.defers = a0.defers) {K : Act → World → Prop} (hK : ∀ v w', R (slotOf (b.put o.dst v) o.dst) w' → K (a.put o.dst v) w') (r : Result Next)
    (h : o.upon P b (StepQ Q R a0 o.dst .normal) (StepQ Q R a0 o.dst) r) : o.upon P a K Q r := by
  cases r with
  | ok n w' =>
    cases n with
    | value v => exact hK v w' h.2
    | skip => exact hK undef w' h.2
    | defer d =>
      have := h.1
      rw [put_defers'] at this
      simp only [hd] at this
      have hl := congrArg List.length this
      simp at hl
    | enter f args =>
      refine Calls.mono h fun e w'' he => ?_
      cases e with
      | returned v => exact hK v w'' he.2
      | panicked c => exact (he : False).elim
      | outgrown => exact stepQ_out R a0 o.dst he
    | row row args => exact Rows.mono h fun v w'' he => hK v w'' he.2
    | _ => exact h
  | halt x w' =>
    cases x with
    | panic v => exact (h : False).elim
    | _ => exact h

variable (F : Nat → Value → World → Prop) (G : World → World → Prop) (J : World → Prop) (W : World) (a0 : Act)

/-- What stands while the region runs. -/
structure Inv (listed : Array Bool) (a : Act) (w : World) : Prop where
  grown : G W w
  keeps : J w
  defers : a.defers = a0.defers
  size : a.tmps.size = a0.tmps.size
  lsize : listed.size = ops.size
  other : ∀ t, (∀ (j : Nat) (o : Oper), ops[j]? = some o → listed.getD j false = true → o.dst ≠ some t) → a.tmps[t]? = a0.tmps[t]?
  fact : ∀ (j : Nat) (o : Oper), ops[j]? = some o → listed.getD j false = true → F j (slotOf a o.dst) w

/-- An operation waits for another. -/
def waitsB (o : Oper) (j : Nat) : Bool := o.after.toList.any fun e => Region.binds .any e && e.on == j
/-- What a step must come to. -/
def StepR (k : Nat) (w : World) (v : Value) (w' : World) : Prop := G w w' ∧ J w' ∧ F k v w'
/-- Each operation, once. -/
def StepsAll (P : Program) (ops : Array Oper) (Q : Exit → Act → World → Prop) (V : Nat → Value) : List Oper → Nat → Act → Prop
  | [], _, _ => True
  | o :: r, k, fr => (∀ w, G W w → J w → (∀ j, waitsB o j = true → F j (V j) w) → wpList P ops (StepQ Q (StepR F G J k w) a0 o.dst) [o] fr w) ∧ StepsAll P ops Q V r (k + 1) (fr.put o.dst (V k))
theorem steps_at (V : Nat → Value) : ∀ (l : List Oper) (k : Nat) (fr : Act), StepsAll F G J W a0 P ops Q V l k fr → ∀ (i : Nat) (o : Oper), l[i]? = some o →
    ∀ w, G W w → J w → (∀ j, waitsB o j = true → F j (V j) w) → wpList P ops (StepQ Q (StepR F G J (k + i) w) a0 o.dst) [o] (fillTo V (l.take i) k fr) w
  | [], _, _, _, _, _, h => by simp at h
  | x :: r, k, fr, hs, 0, o, h => by
    simp only [List.getElem?_cons_zero, Option.some.injEq] at h
    subst h
    exact hs.1
  | x :: r, k, fr, hs, i + 1, o, h => fun w h1 h2 h3 => by
    have := steps_at V r (k + 1) _ hs.2 i o (by simpa using h) w h1 h2 h3
    rw [show k + (i + 1) = k + 1 + i by omega]
    exact this
end

section
variable {P : Program} {ops : Array Oper} {Q : Exit → Act → World → Prop} {F : Nat → Value → World → Prop} {G : World → World → Prop} {J : World → Prop} {W : World} {a0 : Act}

theorem facts_spec (hB : factsB ops = true) {i : Nat} {o : Oper} (ho : ops[i]? = some o) :
    (∀ cs b, o.op ≠ .select cs b) ∧ (∀ t, t ∈ o.looksAt ops → ∀ (j : Nat) (oj : Oper), ops[j]? = some oj → oj.dst = some t → j < i ∧ ∃ e ∈ o.after, Region.binds .any e = true ∧ e.on = j) ∧
    (∀ e ∈ o.after, Region.binds .any e = true → e.on < i) ∧ (∀ (j : Nat) (oj : Oper) (d : Tmp), ops[j]? = some oj → j ≠ i → oj.dst = some d → o.dst ≠ some d) := by
  have hi : i < ops.size := (Array.getElem?_eq_some_iff.1 ho).1
  have h := List.all_eq_true.1 hB i (List.mem_range.2 hi)
  simp only [ho, Bool.and_eq_true] at h
  obtain ⟨⟨⟨h1, h2⟩, h3⟩, h4⟩ := h
  refine ⟨fun cs b e => by rw [e] at h1; simp at h1, fun t ht j oj hj hd => ?_, fun e he hb => ?_, fun j oj d hj hne hd e => ?_⟩
  · have hjl : j < ops.size := (Array.getElem?_eq_some_iff.1 hj).1
    have := List.all_eq_true.1 (List.all_eq_true.1 h2 t ht) j (List.mem_range.2 hjl)
    simp only [hj, hd, bne_self_eq_false, Bool.false_or, Bool.and_eq_true, decide_eq_true_eq] at this
    refine ⟨this.1, ?_⟩
    obtain ⟨e, he, hb⟩ := Array.any_eq_true'.1 this.2
    simp only [Bool.and_eq_true, beq_iff_eq] at hb
    exact ⟨e, he, hb.1, hb.2⟩
  · have := Array.all_eq_true_iff_forall_mem.1 h3 e he
    simpa [hb] using this
  · have hjl : j < ops.size := (Array.getElem?_eq_some_iff.1 hj).1
    have := List.all_eq_true.1 h4 j (List.mem_range.2 hjl)
    simp only [hj, hd, e] at this
    simp [hne] at this

/-- How many are not done. -/
def undone (ops : Array Oper) (listed : Array Bool) : Nat := ((List.range ops.size).filter fun i => !listed.getD i true).length
theorem undone_set {listed : Array Bool} {i : Nat} (hi : i < ops.size) (hl : listed.getD i true = false) : undone ops (listed.setIfInBounds i true) < undone ops listed := by
  have hil : i < listed.size := by
    rcases Nat.lt_or_ge i listed.size with h | h
    · exact h
    · simp [Array.getElem?_eq_none h] at hl
  have e : (List.range ops.size).filter (fun j => !(listed.setIfInBounds i true).getD j true) = ((List.range ops.size).filter fun j => !listed.getD j true).filter (fun j => j != i) := by
    rw [List.filter_filter]
    apply List.filter_congr
    intro j _
    by_cases h : j = i
    · subst h; simp [hil]
    · simp [h, Array.getElem?_setIfInBounds_ne (Ne.symm h)]
  unfold undone
  rw [e]
  refine List.length_filter_lt_length_iff_exists.2 ⟨i, ?_, by simp⟩
  rw [List.mem_filter]
  exact ⟨List.mem_range.2 hi, by simp [hl]⟩

theorem inv_step (hB : factsB ops = true) (htr : ∀ x y z, G x y → G y z → G x z) (hst : ∀ j v w w', F j v w → G w w' → F j v w') (hS : ∀ V, StepsAll F G J W a0 P ops Q V ops.toList 0 a0)
    {listed : Array Bool} {a : Act} {w : World} (hI : Inv (ops := ops) F G J W a0 listed a w) {i : Nat} (hr : i ∈ Region.ready .any ops listed) :
    wpOp P ops Q i (Inv (ops := ops) F G J W a0 (listed.setIfInBounds i true)) a w := by
  obtain ⟨hun, o, ho, hall⟩ := mem_ready.1 hr
  obtain ⟨hsel, hlook, hback, hdist⟩ := facts_spec hB ho
  have hi : i < ops.size := (Array.getElem?_eq_some_iff.1 ho).1
  have hil : i < listed.size := by rw [hI.lsize]; exact hi
  have hunf : listed.getD i false = false := by simp [hil] at hun ⊢; exact hun
  let V : Nat → Value := fun j => match ops[j]? with | some oj => slotOf a oj.dst | none => undef
  have hV : ∀ (j : Nat) (oj : Oper), ops[j]? = some oj → V j = slotOf a oj.dst := fun j oj hj => by simp only [V, hj]
  have hdeps : ∀ j, waitsB o j = true → F j (V j) w := fun j hw => by
    obtain ⟨e, he, hb⟩ := List.any_eq_true.1 hw
    have he' : e ∈ o.after := by simpa using he
    simp only [Bool.and_eq_true, beq_iff_eq] at hb
    obtain ⟨hb, rfl⟩ := hb
    have hon : e.on < ops.size := Nat.lt_trans (hback e he' hb) hi
    have hoj : ops[e.on]? = some ops[e.on] := Array.getElem?_eq_getElem hon
    rw [hV _ _ hoj]
    exact hI.fact _ _ hoj (hall e he' hb)
  have hb := steps_at F G J W a0 V ops.toList 0 _ (hS V) i o (by rw [Array.getElem?_toList]; exact ho) w hI.grown hI.keeps hdeps
  generalize hbf : fillTo V (ops.toList.take i) 0 a0 = b at hb
  have hbs : b.tmps.size = a0.tmps.size := by rw [← hbf, fill_size]
  have hbd : b.defers = a0.defers := by rw [← hbf, fill_defers]
  have hsl : ∀ t, t ∈ o.looksAt ops → b.tmps[t]? = a.tmps[t]? := fun t ht => by
    by_cases hex : ∃ (j : Nat) (oj : Oper), ops[j]? = some oj ∧ oj.dst = some t
    · obtain ⟨j, oj, hj, hd⟩ := hex
      obtain ⟨hji, e, he, hbe, hej⟩ := hlook t ht j oj hj hd
      have htk : (ops.toList.take i)[j]? = some oj := by rw [List.getElem?_take, if_pos hji, Array.getElem?_toList]; exact hj
      by_cases hts : t < a0.tmps.size
      · rw [← hbf, fill_at V t (ops.toList.take i) 0 j a0 oj htk hd hts (fun i' o' hi' hne hd' => ?_), Nat.zero_add, hV j oj hj, hd]
        · simp [slotOf, Array.getElem?_eq_getElem (show t < a.tmps.size by rw [hI.size]; exact hts)]
        · rw [List.getElem?_take] at hi'
          split at hi'
          · rw [Array.getElem?_toList] at hi'
            exact (facts_spec hB hj).2.2.2 i' o' t hi' hne hd' hd
          · cases hi'
      · have h1 : b.tmps[t]? = none := Array.getElem?_eq_none (by rw [hbs]; exact Nat.le_of_not_lt hts)
        have h2 : a.tmps[t]? = none := Array.getElem?_eq_none (by rw [hI.size]; exact Nat.le_of_not_lt hts)
        rw [h1, h2]
    · have hn : ∀ (j : Nat) (oj : Oper), ops[j]? = some oj → oj.dst ≠ some t := fun j oj hj hd => hex ⟨j, oj, hj, hd⟩
      rw [hI.other t fun j oj hj _ => hn j oj hj, ← hbf, fill_other]
      intro x hx
      obtain ⟨j, hj⟩ := List.getElem?_of_mem (List.mem_of_mem_take hx)
      rw [Array.getElem?_toList] at hj
      exact hn j x hj
  have hev : execOp b.eval o = execOp a.eval o := execOp_congr o hsel fun x hx => by
    cases x with
    | tmp t =>
      have := hsl t (List.mem_append_left _ (List.mem_filterMap.2 ⟨.tmp t, by simpa using hx, rfl⟩))
      simp only [Act.eval, Array.getD_eq_getD_getElem?, this]
    | _ => rfl
  have hwa : Region.wanted o (yielded ops b.tmps) = Region.wanted o (yielded ops a.tmps) := by
    unfold Region.wanted
    cases hg : o.guard with
    | none => rfl
    | some gw =>
      obtain ⟨g, want⟩ := gw
      have hy : yielded ops b.tmps g = yielded ops a.tmps g := by
        unfold yielded
        cases ht : (ops[g]?).bind (·.dst) with
        | none => rfl
        | some t =>
          have := hsl t (by simp [Oper.looksAt, hg, ht])
          simp only [Option.bind_some, this]
      simp only [hy]
  have hK : ∀ v w', (G w w' ∧ J w' ∧ F i (slotOf (b.put o.dst v) o.dst) w') → Inv (ops := ops) F G J W a0 (listed.setIfInBounds i true) (a.put o.dst v) w' := fun v w' ⟨hg, hj, hf⟩ => by
    refine ⟨htr _ _ _ hI.grown hg, hj, by rw [put_defers']; exact hI.defers, by rw [put_size]; exact hI.size, by simp [hI.lsize], fun t ht => ?_, fun j oj hoj hl => ?_⟩
    · have hne : o.dst ≠ some t := ht i o ho (by simp [hil])
      rw [put_other _ _ _ _ hne]
      refine hI.other t fun j oj hoj hl => ht j oj hoj ?_
      by_cases e : j = i
      · subst e; simp [hil]
      · rw [Array.getD_eq_getD_getElem?, Array.getElem?_setIfInBounds_ne (Ne.symm e), ← Array.getD_eq_getD_getElem?]; exact hl
    · by_cases e : j = i
      · subst e
        obtain rfl : oj = o := Option.some.inj (hoj.symm.trans ho)
        have : slotOf (a.put oj.dst v) oj.dst = slotOf (b.put oj.dst v) oj.dst := by
          cases hd : oj.dst with
          | none => rfl
          | some d =>
            simp only [slotOf, Array.getD_eq_getD_getElem?]
            by_cases hds : d < a0.tmps.size
            · rw [put_same _ _ _ (by rw [hI.size]; exact hds), put_same _ _ _ (by rw [hbs]; exact hds)]
            · have h1 : (a.put (some d) v).tmps[d]? = none := Array.getElem?_eq_none (by rw [put_size, hI.size]; exact Nat.le_of_not_lt hds)
              have h2 : (b.put (some d) v).tmps[d]? = none := Array.getElem?_eq_none (by rw [put_size, hbs]; exact Nat.le_of_not_lt hds)
              rw [h1, h2]
        rw [this]
        exact hf
      · rw [Array.getD_eq_getD_getElem?, Array.getElem?_setIfInBounds_ne (Ne.symm e), ← Array.getD_eq_getD_getElem?] at hl
        have : slotOf (a.put o.dst v) oj.dst = slotOf a oj.dst := by
          cases hd : oj.dst with
          | none => rfl
          | some d =>
            simp only [slotOf, Array.getD_eq_getD_getElem?]
            rw [put_other _ _ _ _ (hdist j oj d hoj e hd)]
        rw [this]
        exact hst j _ _ _ (hI.fact j oj hoj hl) hg
  unfold wpOp
  simp only [ho]
  unfold wpList at hb
  rw [hwa] at hb
  split
  · rename_i hw
    rw [if_pos hw] at hb
    rw [Nat.zero_add] at hb
    rcases hb with hb | ⟨hb, hl⟩
    · left
      unfold Oper.wp at hb ⊢
      rw [hev] at hb
      exact upon_move (R := StepR F G J i w) hbd hK _ hb
    · right
      refine ⟨?_, stepQ_out _ _ _ hl⟩
      unfold Oper.asks at hb ⊢
      rw [hev] at hb
      exact hb
  · rename_i hw
    rw [if_neg hw, Nat.zero_add] at hb
    exact hK undef w hb.2

/-- THE RULE: a region that draws its order, by what each operation yields (F), what becomes of the world (G), what stands all the while (J). -/
theorem wp_region_facts {id : Nat} (F : Nat → Value → World → Prop) (G : World → World → Prop) (J : World → Prop) (hm : P.follows .mixedOrders = true) (hB : factsB ops = true) (hG : ∀ x, G x x) (htr : ∀ x y z, G x y → G y z → G x z) (hst : ∀ j v w w', F j v w → G w w' → F j v w') {w : World}
    (hJ : J { w with drawn := w.drawn + 1 }) (hS : ∀ V, StepsAll F G J { w with drawn := w.drawn + 1 } a0 P ops Q V ops.toList 0 a0)
    (hQ : ∀ V w', G { w with drawn := w.drawn + 1 } w' → J w' → (∀ j, j < ops.size → F j (V j) w') → Q .normal (fillTo V ops.toList 0 a0) w') : (Code.region id ops true).wp P Q a0 w := by
  refine wp_region_any hm ?_
  have main : ∀ (fuel : Nat) (listed : Array Bool) (a : Act) (w' : World), undone ops listed ≤ fuel → Inv (ops := ops) F G J { w with drawn := w.drawn + 1 } a0 listed a w' → wpAny P .any ops Q fuel listed a w' := by
    have fin : ∀ (listed : Array Bool) (a : Act) (w' : World), Inv (ops := ops) F G J { w with drawn := w.drawn + 1 } a0 listed a w' → Region.ready .any ops listed = [] → Q .normal a w' := fun listed a w' hI hr => by
      have hdone : ∀ i, i < ops.size → listed.getD i false = true := by
        intro i
        induction i using Nat.strongRecOn with
        | _ i ih =>
          intro hi
          cases hl : listed.getD i false with
          | true => rfl
          | false =>
            have hil : i < listed.size := by rw [hI.lsize]; exact hi
            have hoi : ops[i]? = some ops[i] := Array.getElem?_eq_getElem hi
            have : i ∈ Region.ready .any ops listed := mem_ready.2 ⟨by simp [hil] at hl ⊢; exact hl, _, hoi, fun e he hb => by
              have h1 := (facts_spec hB hoi).2.2.1 e he hb
              exact ih _ h1 (Nat.lt_trans h1 hi)⟩
            rw [hr] at this
            cases this
      let V : Nat → Value := fun j => match ops[j]? with | some oj => slotOf a oj.dst | none => undef
      have hV : ∀ (j : Nat) (oj : Oper), ops[j]? = some oj → V j = slotOf a oj.dst := fun j oj hj => by simp only [V, hj]
      have ea : a = fillTo V ops.toList 0 a0 := by
        have e1 : a.defers = (fillTo V ops.toList 0 a0).defers := by rw [fill_defers]; exact hI.defers
        have e2 : a.tmps = (fillTo V ops.toList 0 a0).tmps := by
          apply Array.ext_getElem?
          intro t
          by_cases hex : ∃ (j : Nat) (oj : Oper), ops[j]? = some oj ∧ oj.dst = some t
          · obtain ⟨j, oj, hj, hd⟩ := hex
            by_cases hts : t < a0.tmps.size
            · rw [fill_at V t ops.toList 0 j a0 oj (by rw [Array.getElem?_toList]; exact hj) hd hts (fun i' o' hi' hne hd' => ?_), Nat.zero_add, hV j oj hj, hd]
              · simp [slotOf, Array.getElem?_eq_getElem (show t < a.tmps.size by rw [hI.size]; exact hts)]
              · rw [Array.getElem?_toList] at hi'
                exact (facts_spec hB hj).2.2.2 i' o' t hi' hne hd' hd
            · have h1 : a.tmps[t]? = none := Array.getElem?_eq_none (by rw [hI.size]; exact Nat.le_of_not_lt hts)
              have h2 : (fillTo V ops.toList 0 a0).tmps[t]? = none := Array.getElem?_eq_none (by rw [fill_size]; exact Nat.le_of_not_lt hts)
              rw [h1, h2]
          · have hn : ∀ (j : Nat) (oj : Oper), ops[j]? = some oj → oj.dst ≠ some t := fun j oj hj hd => hex ⟨j, oj, hj, hd⟩
            rw [hI.other t fun j oj hj _ => hn j oj hj, fill_other]
            intro x hx
            obtain ⟨j, hj⟩ := List.getElem?_of_mem hx
            rw [Array.getElem?_toList] at hj
            exact hn j x hj
        cases a
        cases hf : fillTo V ops.toList 0 a0
        rw [hf] at e1 e2
        simp only at e1 e2
        rw [e1, e2]
      rw [ea]
      refine hQ V w' hI.grown hI.keeps fun j hj => ?_
      have hoj : ops[j]? = some ops[j] := Array.getElem?_eq_getElem hj
      rw [hV _ _ hoj]
      exact hI.fact _ _ hoj (hdone j hj)
    intro fuel
    induction fuel with
    | zero =>
      intro listed a w' hu hI
      have hr : Region.ready .any ops listed = [] := by
        apply List.eq_nil_iff_forall_not_mem.2
        intro i hi
        obtain ⟨hun, o, ho, _⟩ := mem_ready.1 hi
        have hil : i < ops.size := (Array.getElem?_eq_some_iff.1 ho).1
        have := undone_set (ops := ops) hil hun
        omega
      exact ⟨hr, fin listed a w' hI hr⟩
    | succ fuel ih =>
      intro listed a w' hu hI
      refine ⟨fun hr => fin listed a w' hI hr, fun i hi => ?_⟩
      obtain ⟨hun, o, ho, _⟩ := mem_ready.1 hi
      have hil : i < ops.size := (Array.getElem?_eq_some_iff.1 ho).1
      refine wpOp_mono (fun a'' w'' hI' => ih _ a'' w'' ?_ hI') (inv_step hB htr hst hS hI hi)
      have := undone_set (ops := ops) hil hun
      omega
  refine main ops.size _ _ _ ?_ ⟨hG _, hJ, rfl, rfl, by simp, fun t _ => rfl, fun j o _ hl => ?_⟩
  · unfold undone
    refine Nat.le_trans (List.length_filter_le _ _) (by simp)
  · rcases Nat.lt_or_ge j ops.size with h | h <;> simp [h] at hl
end
end Go.Proofs.YtiijjpjkfiookaaDoor
