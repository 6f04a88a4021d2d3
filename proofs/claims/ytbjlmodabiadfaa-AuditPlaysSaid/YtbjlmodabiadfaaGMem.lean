/- GENERAL: a region that draws its order, by what each operation yields: every operation is shown once, whatever else has been done. GENERAL: small laws of the walk, over any program. GENERAL: words for memory, over any program: a slice that reads as a list; a row of the call's own; what append leaves. GENERAL: copy and append said in the words Row and Reads; worlds that part in the cells of some blocks alone. GENERAL: append inside a region that draws its order. GENERAL: blocks known whole; worlds that have grown; a world under a new name. GENERAL: a world that has grown, whose old blocks stand but for those of a set; parts (slices of bytes in a row) that stand in such blocks. THE WALKS of the laws' own helpers: Lent, Kept, Owned. THE WALKS of bytes.Clone and slices.Clone of bytes; what a result in a new row reads. GENERAL: what values come to, stable while the world grows (for XFacts). THE WALKS of sync.Once in one goroutine: the lock, the two deferred calls, doSlow, Do. GENERAL: strings in a row. THE WALK of the laws' own helper Owned. Rows that their owner may write over, listed. GENERAL: append of a string's bytes to a row. GENERAL: a region that draws its order, whose last operations wait for all that stands ahead of them: facts first, then the tail as it stands. -/
import Derived.Orders
import Derived.Tactics
import Derived.Below
import Derived.WalkKit
import Derived.ProofKit
import Derived.Laws.BytesArg
import Derived.Laws.IdiomStrings
import Derived.WalkLawsBesides
import Derived.WalkSpells
import Derived.Lib.Hide
import Derived.Lib.SmallJoins
import Derived.ArgAppend
import Derived.Deep.OwnRows
import Derived.Deep.AppendLies
import Derived.Deep.Draws
import Derived.Laws.CopyOwn
import Derived.Lib.ConvBytes
import Derived.OwnWalk
import Derived.Deep.RegionLaw
import Derived.Deep.QuietTactic
import Derived.BigQuiet
import Derived.BigRegion
import Derived.Test.YtbjlmodabiadfaaRows
import Derived.Great.BuildSlice
import Derived.Tactics2
import Derived.Defers
import Derived.Laws.Pointers
import Derived.Laws.LoneSync
import Derived.RegionTactic
import Derived.RegionCalls
import Derived.ChangeAlike
import Derived.Laws.NewBlocks
import Derived.Outline
import Derived.Lib.AppendStr
namespace Go.Proofs.Ytbjlmodabiadfaa
open Go

def slotOf (a : Act) : Option Tmp → Value
  | some d => a.tmps.getD d undef
  | none => undef

/-- What is read is bound; no slot is written twice; no operation waits for a later one. -/
def factsB (ops : Array Oper) : Bool :=
  (List.range ops.size).all fun i =>
    match ops[i]? with
    | none => false
    | some o =>
      (match o.op with | .select _ _ => false | _ => true) &&
      ((o.looksAt ops).all fun t => (List.range ops.size).all fun j =>
        match ops[j]? with
        | some oj => oj.dst != some t || (decide (j < i) && o.after.any fun e => Region.binds .any e && e.on == j)
        | none => true) &&
      (o.after.all fun e => !Region.binds .any e || decide (e.on < i)) &&
      ((List.range ops.size).all fun j => match ops[j]? with | some oj => j == i || oj.dst == none || oj.dst != o.dst | none => true)

/-- The frame behind these operations, with these values. -/
def fillTo (V : Nat → Value) : List Oper → Nat → Act → Act
  | [], _, a => a
  | o :: r, k, a => fillTo V r (k + 1) (a.put o.dst (V k))

section
variable {P : Program} {ops : Array Oper} {Q : Exit → Act → World → Prop}

theorem put_defers' (a : Act) (d : Option Tmp) (v : Value) : (a.put d v).defers = a.defers := by cases d <;> rfl
theorem put_size (a : Act) (d : Option Tmp) (v : Value) : (a.put d v).tmps.size = a.tmps.size := by cases d <;> simp [Act.put]
theorem put_other (a : Act) (d : Option Tmp) (v : Value) (t : Tmp) (h : d ≠ some t) : (a.put d v).tmps[t]? = a.tmps[t]? := by
  cases d with
  | none => rfl
  | some d =>
    have : d ≠ t := fun e => h (by rw [e])
    simp [Act.put, Array.getElem?_setIfInBounds_ne this]
theorem put_same (a : Act) (d : Tmp) (v : Value) (h : d < a.tmps.size) : (a.put (some d) v).tmps[d]? = some v := by
  simp [Act.put, h]
theorem fill_defers (V : Nat → Value) : ∀ (l : List Oper) (k : Nat) (a : Act), (fillTo V l k a).defers = a.defers
  | [], _, _ => rfl
  | o :: r, k, a => by rw [fillTo, fill_defers V r, put_defers']
theorem fill_size (V : Nat → Value) : ∀ (l : List Oper) (k : Nat) (a : Act), (fillTo V l k a).tmps.size = a.tmps.size
  | [], _, _ => rfl
  | o :: r, k, a => by rw [fillTo, fill_size V r, put_size]
theorem fill_other (V : Nat → Value) (t : Tmp) : ∀ (l : List Oper) (k : Nat) (a : Act), (∀ o ∈ l, o.dst ≠ some t) → (fillTo V l k a).tmps[t]? = a.tmps[t]?
  | [], _, _, _ => rfl
  | o :: r, k, a, h => by rw [fillTo, fill_other V t r (k + 1) _ (fun x hx => h x (List.mem_cons_of_mem _ hx)), put_other _ _ _ _ (h o (List.mem_cons_self ..))]
theorem fill_at (V : Nat → Value) (d : Tmp) : ∀ (l : List Oper) (k j : Nat) (a : Act) (o : Oper), l[j]? = some o → o.dst = some d → d < a.tmps.size → (∀ (i : Nat) (o' : Oper), l[i]? = some o' → i ≠ j → o'.dst ≠ some d) →
    (fillTo V l k a).tmps[d]? = some (V (k + j))
  | [], _, _, _, _, h, _, _, _ => by simp at h
  | x :: r, k, 0, a, o, h, hd, hs, ha => by
    simp only [List.getElem?_cons_zero, Option.some.injEq] at h
    subst h
    rw [fillTo, fill_other V d r (k + 1) _ (fun y hy => ?_), hd, put_same _ _ _ hs]
    · rfl
    · obtain ⟨i, hi⟩ := List.getElem?_of_mem hy
      exact ha (i + 1) y (by simpa using hi) (by omega)
  | x :: r, k, j + 1, a, o, h, hd, hs, ha => by
    rw [fillTo, fill_at V d r (k + 1) j _ o (by simpa using h) hd (by rw [put_size]; exact hs) (fun i o' hi hne => ha (i + 1) o' (by simpa using hi) (by omega))]
    congr 2
    omega

/-- What an operation must come to. -/
def StepQ (Q : Exit → Act → World → Prop) (R : Value → World → Prop) (a0 : Act) (dst : Option Tmp) : Exit → Act → World → Prop
  | .normal, a, w => a.defers = a0.defers ∧ R (slotOf a dst) w
  | .outgrown, a, w => Q .outgrown a w
  | _, _, _ => False
theorem stepQ_out (R : Value → World → Prop) (a0 : Act) (dst : Option Tmp) : LetsOut (StepQ Q R a0 dst) → LetsOut Q := fun ⟨a, w, h⟩ => ⟨a, w, h⟩

/-- An operation looks at the frame through its operands alone. -/
theorem upon_move {o : Oper} {R : Value → World → Prop} {a0 a b : Act} (hd : b.defers = a0.defers) {K : Act → World → Prop} (hK : ∀ v w', R (slotOf (b.put o.dst v) o.dst) w' → K (a.put o.dst v) w') (r : Result Next)
    (h : o.upon P b (StepQ Q R a0 o.dst .normal) (StepQ Q R a0 o.dst) r) : o.upon P a K Q r := by
  cases r with
  | ok n w' =>
    cases n with
    | value v => exact hK v w' h.2
    | skip => exact hK undef w' h.2
    | defer d =>
      have := h.1
      rw [put_defers'] at this
      simp only [hd] at this
      have hl := congrArg List.length this
      simp at hl
    | enter f args =>
      refine Calls.mono h fun e w'' he => ?_
      cases e with
      | returned v => exact hK v w'' he.2
      | panicked c => exact (he : False).elim
      | outgrown => exact stepQ_out R a0 o.dst he
    | row row args => exact Rows.mono h fun v w'' he => hK v w'' he.2
    | _ => exact h
  | halt x w' =>
    cases x with
    | panic v => exact (h : False).elim
    | _ => exact h

variable (F : Nat → Value → World → Prop) (G : World → World → Prop) (J : World → Prop) (W : World) (a0 : Act)

/-- What stands while the region runs. -/
structure Inv (listed : Array Bool) (a : Act) (w : World) : Prop where
  grown : G W w
  keeps : J w
  defers : a.defers = a0.defers
  size : a.tmps.size = a0.tmps.size
  lsize : listed.size = ops.size
  other : ∀ t, (∀ (j : Nat) (o : Oper), ops[j]? = some o → listed.getD j false = true → o.dst ≠ some t) → a.tmps[t]? = a0.tmps[t]?
  fact : ∀ (j : Nat) (o : Oper), ops[j]? = some o → listed.getD j false = true → F j (slotOf a o.dst) w

/-- An operation waits for another. -/
def waitsB (o : Oper) (j : Nat) : Bool := o.after.toList.any fun e => Region.binds .any e && e.on == j
/-- What a step must come to. -/
def StepR (k : Nat) (w : World) (v : Value) (w' : World) : Prop := G w w' ∧ J w' ∧ F k v w'
/-- Each operation, once. -/
def StepsAll (P : Program) (ops : Array Oper) (Q : Exit → Act → World → Prop) (V : Nat → Value) : List Oper → Nat → Act → Prop
  | [], _, _ => True
  | o :: r, k, fr => (∀ w, G W w → J w → (∀ j, waitsB o j = true → F j (V j) w) → wpList P ops (StepQ Q (StepR F G J k w) a0 o.dst) [o] fr w) ∧ StepsAll P ops Q V r (k + 1) (fr.put o.dst (V k))
theorem steps_at (V : Nat → Value) : ∀ (l : List Oper) (k : Nat) (fr : Act), StepsAll F G J W a0 P ops Q V l k fr → ∀ (i : Nat) (o : Oper), l[i]? = some o →
    ∀ w, G W w → J w → (∀ j, waitsB o j = true → F j (V j) w) → wpList P ops (StepQ Q (StepR F G J (k + i) w) a0 o.dst) [o] (fillTo V (l.take i) k fr) w
  | [], _, _, _, _, _, h => by simp at h
  | x :: r, k, fr, hs, 0, o, h => by
    simp only [List.getElem?_cons_zero, Option.some.injEq] at h
    subst h
    exact hs.1
  | x :: r, k, fr, hs, i + 1, o, h => fun w h1 h2 h3 => by
    have := steps_at V r (k + 1) _ hs.2 i o (by simpa using h) w h1 h2 h3
    rw [show k + (i + 1) = k + 1 + i by omega]
    exact this
end

section
variable {P : Program} {ops : Array Oper} {Q : Exit → Act → World → Prop} {F : Nat → Value → World → Prop} {G : World → World → Prop} {J : World → Prop} {W : World} {a0 : Act}

theorem facts_spec (hB : factsB ops = true) {i : Nat} {o : Oper} (ho : ops[i]? = some o) :
    (∀ cs b, o.op ≠ .select cs b) ∧ (∀ t, t ∈ o.looksAt ops → ∀ (j : Nat) (oj : Oper), ops[j]? = some oj → oj.dst = some t → j < i ∧ ∃ e ∈ o.after, Region.binds .any e = true ∧ e.on = j) ∧
    (∀ e ∈ o.after, Region.binds .any e = true → e.on < i) ∧ (∀ (j : Nat) (oj : Oper) (d : Tmp), ops[j]? = some oj → j ≠ i → oj.dst = some d → o.dst ≠ some d) := by
  have hi : i < ops.size := (Array.getElem?_eq_some_iff.1 ho).1
  have h := List.all_eq_true.1 hB i (List.mem_range.2 hi)
  simp only [ho, Bool.and_eq_true] at h
  obtain ⟨⟨⟨h1, h2⟩, h3⟩, h4⟩ := h
  refine ⟨fun cs b e => by rw [e] at h1; simp at h1, fun t ht j oj hj hd => ?_, fun e he hb => ?_, fun j oj d hj hne hd e => ?_⟩
  · have hjl : j < ops.size := (Array.getElem?_eq_some_iff.1 hj).1
    have := List.all_eq_true.1 (List.all_eq_true.1 h2 t ht) j (List.mem_range.2 hjl)
    simp only [hj, hd, bne_self_eq_false, Bool.false_or, Bool.and_eq_true, decide_eq_true_eq] at this
    refine ⟨this.1, ?_⟩
    obtain ⟨e, he, hb⟩ := Array.any_eq_true'.1 this.2
    simp only [Bool.and_eq_true, beq_iff_eq] at hb
    exact ⟨e, he, hb.1, hb.2⟩
  · have := Array.all_eq_true_iff_forall_mem.1 h3 e he
    simpa [hb] using this
  · have hjl : j < ops.size := (Array.getElem?_eq_some_iff.1 hj).1
    have := List.all_eq_true.1 h4 j (List.mem_range.2 hjl)
    simp only [hj, hd, e] at this
    simp [hne] at this

/-- How many are not done. -/
def undone (ops : Array Oper) (listed : Array Bool) : Nat := ((List.range ops.size).filter fun i => !listed.getD i true).length
theorem undone_set {listed : Array Bool} {i : Nat} (hi : i < ops.size) (hl : listed.getD i true = false) : undone ops (listed.setIfInBounds i true) < undone ops listed := by
  have hil : i < listed.size := by
    rcases Nat.lt_or_ge i listed.size with h | h
    · exact h
    · simp [Array.getElem?_eq_none h] at hl
  have e : (List.range ops.size).filter (fun j => !(listed.setIfInBounds i true).getD j true) = ((List.range ops.size).filter fun j => !listed.getD j true).filter (fun j => j != i) := by
    rw [List.filter_filter]
    apply List.filter_congr
    intro j _
    by_cases h : j = i
    · subst h; simp [hil]
    · simp [h, Array.getElem?_setIfInBounds_ne (Ne.symm h)]
  unfold undone
  rw [e]
  refine List.length_filter_lt_length_iff_exists.2 ⟨i, ?_, by simp⟩
  rw [List.mem_filter]
  exact ⟨List.mem_range.2 hi, by simp [hl]⟩

theorem inv_step (hB : factsB ops = true) (htr : ∀ x y z, G x y → G y z → G x z) (hst : ∀ j v w w', F j v w → G w w' → F j v w') (hS : ∀ V, StepsAll F G J W a0 P ops Q V ops.toList 0 a0)
    {listed : Array Bool} {a : Act} {w : World} (hI : Inv (ops := ops) F G J W a0 listed a w) {i : Nat} (hr : i ∈ Region.ready .any ops listed) :
    wpOp P ops Q i (Inv (ops := ops) F G J W a0 (listed.setIfInBounds i true)) a w := by
  obtain ⟨hun, o, ho, hall⟩ := mem_ready.1 hr
  obtain ⟨hsel, hlook, hback, hdist⟩ := facts_spec hB ho
  have hi : i < ops.size := (Array.getElem?_eq_some_iff.1 ho).1
  have hil : i < listed.size := by rw [hI.lsize]; exact hi
  have hunf : listed.getD i false = false := by simp [hil] at hun ⊢; exact hun
  let V : Nat → Value := fun j => match ops[j]? with | some oj => slotOf a oj.dst | none => undef
  have hV : ∀ (j : Nat) (oj : Oper), ops[j]? = some oj → V j = slotOf a oj.dst := fun j oj hj => by simp only [V, hj]
  have hdeps : ∀ j, waitsB o j = true → F j (V j) w := fun j hw => by
    obtain ⟨e, he, hb⟩ := List.any_eq_true.1 hw
    have he' : e ∈ o.after := by simpa using he
    simp only [Bool.and_eq_true, beq_iff_eq] at hb
    obtain ⟨hb, rfl⟩ := hb
    have hon : e.on < ops.size := Nat.lt_trans (hback e he' hb) hi
    have hoj : ops[e.on]? = some ops[e.on] := Array.getElem?_eq_getElem hon
    rw [hV _ _ hoj]
    exact hI.fact _ _ hoj (hall e he' hb)
  have hb := steps_at F G J W a0 V ops.toList 0 _ (hS V) i o (by rw [Array.getElem?_toList]; exact ho) w hI.grown hI.keeps hdeps
  generalize hbf : fillTo V (ops.toList.take i) 0 a0 = b at hb
  have hbs : b.tmps.size = a0.tmps.size := by rw [← hbf, fill_size]
  have hbd : b.defers = a0.defers := by rw [← hbf, fill_defers]
  have hsl : ∀ t, t ∈ o.looksAt ops → b.tmps[t]? = a.tmps[t]? := fun t ht => by
    by_cases hex : ∃ (j : Nat) (oj : Oper), ops[j]? = some oj ∧ oj.dst = some t
    · obtain ⟨j, oj, hj, hd⟩ := hex
      obtain ⟨hji, e, he, hbe, hej⟩ := hlook t ht j oj hj hd
      have htk : (ops.toList.take i)[j]? = some oj := by rw [List.getElem?_take, if_pos hji, Array.getElem?_toList]; exact hj
      by_cases hts : t < a0.tmps.size
      · rw [← hbf, fill_at V t (ops.toList.take i) 0 j a0 oj htk hd hts (fun i' o' hi' hne hd' => ?_), Nat.zero_add, hV j oj hj, hd]
        · simp [slotOf, Array.getElem?_eq_getElem (show t < a.tmps.size by rw [hI.size]; exact hts)]
        · rw [List.getElem?_take] at hi'
          split at hi'
          · rw [Array.getElem?_toList] at hi'
            exact (facts_spec hB hj).2.2.2 i' o' t hi' hne hd' hd
          · cases hi'
      · have h1 : b.tmps[t]? = none := Array.getElem?_eq_none (by rw [hbs]; exact Nat.le_of_not_lt hts)
        have h2 : a.tmps[t]? = none := Array.getElem?_eq_none (by rw [hI.size]; exact Nat.le_of_not_lt hts)
        rw [h1, h2]
    · have hn : ∀ (j : Nat) (oj : Oper), ops[j]? = some oj → oj.dst ≠ some t := fun j oj hj hd => hex ⟨j, oj, hj, hd⟩
      rw [hI.other t fun j oj hj _ => hn j oj hj, ← hbf, fill_other]
      intro x hx
      obtain ⟨j, hj⟩ := List.getElem?_of_mem (List.mem_of_mem_take hx)
      rw [Array.getElem?_toList] at hj
      exact hn j x hj
  have hev : execOp b.eval o = execOp a.eval o := execOp_congr o hsel fun x hx => by
    cases x with
    | tmp t =>
      have := hsl t (List.mem_append_left _ (List.mem_filterMap.2 ⟨.tmp t, by simpa using hx, rfl⟩))
      simp only [Act.eval, Array.getD_eq_getD_getElem?, this]
    | _ => rfl
  have hwa : Region.wanted o (yielded ops b.tmps) = Region.wanted o (yielded ops a.tmps) := by
    unfold Region.wanted
    cases hg : o.guard with
    | none => rfl
    | some gw =>
      obtain ⟨g, want⟩ := gw
      have hy : yielded ops b.tmps g = yielded ops a.tmps g := by
        unfold yielded
        cases ht : (ops[g]?).bind (·.dst) with
        | none => rfl
        | some t =>
          have := hsl t (by simp [Oper.looksAt, hg, ht])
          simp only [Option.bind_some, this]
      simp only [hy]
  have hK : ∀ v w', (G w w' ∧ J w' ∧ F i (slotOf (b.put o.dst v) o.dst) w') → Inv (ops := ops) F G J W a0 (listed.setIfInBounds i true) (a.put o.dst v) w' := fun v w' ⟨hg, hj, hf⟩ => by
    refine ⟨htr _ _ _ hI.grown hg, hj, by rw [put_defers']; exact hI.defers, by rw [put_size]; exact hI.size, by simp [hI.lsize], fun t ht => ?_, fun j oj hoj hl => ?_⟩
    · have hne : o.dst ≠ some t := ht i o ho (by simp [hil])
      rw [put_other _ _ _ _ hne]
      refine hI.other t fun j oj hoj hl => ht j oj hoj ?_
      by_cases e : j = i
      · subst e; simp [hil]
      · rw [Array.getD_eq_getD_getElem?, Array.getElem?_setIfInBounds_ne (Ne.symm e), ← Array.getD_eq_getD_getElem?]; exact hl
    · by_cases e : j = i
      · subst e
        obtain rfl : oj = o := Option.some.inj (hoj.symm.trans ho)
        have : slotOf (a.put oj.dst v) oj.dst = slotOf (b.put oj.dst v) oj.dst := by
          cases hd : oj.dst with
          | none => rfl
          | some d =>
            simp only [slotOf, Array.getD_eq_getD_getElem?]
            by_cases hds : d < a0.tmps.size
            · rw [put_same _ _ _ (by rw [hI.size]; exact hds), put_same _ _ _ (by rw [hbs]; exact hds)]
            · have h1 : (a.put (some d) v).tmps[d]? = none := Array.getElem?_eq_none (by rw [put_size, hI.size]; exact Nat.le_of_not_lt hds)
              have h2 : (b.put (some d) v).tmps[d]? = none := Array.getElem?_eq_none (by rw [put_size, hbs]; exact Nat.le_of_not_lt hds)
              rw [h1, h2]
        rw [this]
        exact hf
      · rw [Array.getD_eq_getD_getElem?, Array.getElem?_setIfInBounds_ne (Ne.symm e), ← Array.getD_eq_getD_getElem?] at hl
        have : slotOf (a.put o.dst v) oj.dst = slotOf a oj.dst := by
          cases hd : oj.dst with
          | none => rfl
          | some d =>
            simp only [slotOf, Array.getD_eq_getD_getElem?]
            rw [put_other _ _ _ _ (hdist j oj d hoj e hd)]
        rw [this]
        exact hst j _ _ _ (hI.fact j oj hoj hl) hg
  unfold wpOp
  simp only [ho]
  unfold wpList at hb
  rw [hwa] at hb
  split
  · rename_i hw
    rw [if_pos hw] at hb
    rw [Nat.zero_add] at hb
    rcases hb with hb | ⟨hb, hl⟩
    · left
      unfold Oper.wp at hb ⊢
      rw [hev] at hb
      exact upon_move (R := StepR F G J i w) hbd hK _ hb
    · right
      refine ⟨?_, stepQ_out _ _ _ hl⟩
      unfold Oper.asks at hb ⊢
      rw [hev] at hb
      exact hb
  · rename_i hw
    rw [if_neg hw, Nat.zero_add] at hb
    exact hK undef w hb.2

/-- THE RULE: a region that draws its order, by what each operation yields (F), what becomes of the world (G), what stands all the while (J). -/
theorem wp_region_facts {id : Nat} (F : Nat → Value → World → Prop) (G : World → World → Prop) (J : World → Prop) (hm : P.follows .mixedOrders = true) (hB : factsB ops = true) (hG : ∀ x, G x x) (htr : ∀ x y z, G x y → G y z → G x z) (hst : ∀ j v w w', F j v w → G w w' → F j v w') {w : World}
    (hJ : J { w with drawn := w.drawn + 1 }) (hS : ∀ V, StepsAll F G J { w with drawn := w.drawn + 1 } a0 P ops Q V ops.toList 0 a0)
    (hQ : ∀ V w', G { w with drawn := w.drawn + 1 } w' → J w' → (∀ j, j < ops.size → F j (V j) w') → Q .normal (fillTo V ops.toList 0 a0) w') : (Code.region id ops true).wp P Q a0 w := by
  refine wp_region_any hm ?_
  have main : ∀ (fuel : Nat) (listed : Array Bool) (a : Act) (w' : World), undone ops listed ≤ fuel → Inv (ops := ops) F G J { w with drawn := w.drawn + 1 } a0 listed a w' → wpAny P .any ops Q fuel listed a w' := by
    have fin : ∀ (listed : Array Bool) (a : Act) (w' : World), Inv (ops := ops) F G J { w with drawn := w.drawn + 1 } a0 listed a w' → Region.ready .any ops listed = [] → Q .normal a w' := fun listed a w' hI hr => by
      have hdone : ∀ i, i < ops.size → listed.getD i false = true := by
        intro i
        induction i using Nat.strongRecOn with
        | _ i ih =>
          intro hi
          cases hl : listed.getD i false with
          | true => rfl
          | false =>
            have hil : i < listed.size := by rw [hI.lsize]; exact hi
            have hoi : ops[i]? = some ops[i] := Array.getElem?_eq_getElem hi
            have : i ∈ Region.ready .any ops listed := mem_ready.2 ⟨by simp [hil] at hl ⊢; exact hl, _, hoi, fun e he hb => by
              have h1 := (facts_spec hB hoi).2.2.1 e he hb
              exact ih _ h1 (Nat.lt_trans h1 hi)⟩
            rw [hr] at this
            cases this
      let V : Nat → Value := fun j => match ops[j]? with | some oj => slotOf a oj.dst | none => undef
      have hV : ∀ (j : Nat) (oj : Oper), ops[j]? = some oj → V j = slotOf a oj.dst := fun j oj hj => by simp only [V, hj]
      have ea : a = fillTo V ops.toList 0 a0 := by
        have e1 : a.defers = (fillTo V ops.toList 0 a0).defers := by rw [fill_defers]; exact hI.defers
        have e2 : a.tmps = (fillTo V ops.toList 0 a0).tmps := by
          apply Array.ext_getElem?
          intro t
          by_cases hex : ∃ (j : Nat) (oj : Oper), ops[j]? = some oj ∧ oj.dst = some t
          · obtain ⟨j, oj, hj, hd⟩ := hex
            by_cases hts : t < a0.tmps.size
            · rw [fill_at V t ops.toList 0 j a0 oj (by rw [Array.getElem?_toList]; exact hj) hd hts (fun i' o' hi' hne hd' => ?_), Nat.zero_add, hV j oj hj, hd]
              · simp [slotOf, Array.getElem?_eq_getElem (show t < a.tmps.size by rw [hI.size]; exact hts)]
              · rw [Array.getElem?_toList] at hi'
                exact (facts_spec hB hj).2.2.2 i' o' t hi' hne hd' hd
            · have h1 : a.tmps[t]? = none := Array.getElem?_eq_none (by rw [hI.size]; exact Nat.le_of_not_lt hts)
              have h2 : (fillTo V ops.toList 0 a0).tmps[t]? = none := Array.getElem?_eq_none (by rw [fill_size]; exact Nat.le_of_not_lt hts)
              rw [h1, h2]
          · have hn : ∀ (j : Nat) (oj : Oper), ops[j]? = some oj → oj.dst ≠ some t := fun j oj hj hd => hex ⟨j, oj, hj, hd⟩
            rw [hI.other t fun j oj hj _ => hn j oj hj, fill_other]
            intro x hx
            obtain ⟨j, hj⟩ := List.getElem?_of_mem hx
            rw [Array.getElem?_toList] at hj
            exact hn j x hj
        cases a
        cases hf : fillTo V ops.toList 0 a0
        rw [hf] at e1 e2
        simp only at e1 e2
        rw [e1, e2]
      rw [ea]
      refine hQ V w' hI.grown hI.keeps fun j hj => ?_
      have hoj : ops[j]? = some ops[j] := Array.getElem?_eq_getElem hj
      rw [hV _ _ hoj]
      exact hI.fact _ _ hoj (hdone j hj)
    intro fuel
    induction fuel with
    | zero =>
      intro listed a w' hu hI
      have hr : Region.ready .any ops listed = [] := by
        apply List.eq_nil_iff_forall_not_mem.2
        intro i hi
        obtain ⟨hun, o, ho, _⟩ := mem_ready.1 hi
        have hil : i < ops.size := (Array.getElem?_eq_some_iff.1 ho).1
        have := undone_set (ops := ops) hil hun
        omega
      exact ⟨hr, fin listed a w' hI hr⟩
    | succ fuel ih =>
      intro listed a w' hu hI
      refine ⟨fun hr => fin listed a w' hI hr, fun i hi => ?_⟩
      obtain ⟨hun, o, ho, _⟩ := mem_ready.1 hi
      have hil : i < ops.size := (Array.getElem?_eq_some_iff.1 ho).1
      refine wpOp_mono (fun a'' w'' hI' => ih _ a'' w'' ?_ hI') (inv_step hB htr hst hS hI hi)
      have := undone_set (ops := ops) hil hun
      omega
  refine main ops.size _ _ _ ?_ ⟨hG _, hJ, rfl, rfl, by simp, fun t _ => rfl, fun j o _ hl => ?_⟩
  · unfold undone
    refine Nat.le_trans (List.length_filter_le _ _) (by simp)
  · rcases Nat.lt_or_ge j ops.size with h | h <;> simp [h] at hl
end
end Go.Proofs.Ytbjlmodabiadfaa
namespace Go.Proofs.Ytbjlmodabiadfaa
open Go.RowKit

/-- A number as a byte (hidden from the walk). -/
def b8 (n : Int) : UInt8 := UInt8.ofNat n.toNat
theorem b8_toNat {n : Int} (h0 : 0 ≤ n) (h1 : n < 256) : ((b8 n).toNat : Int) = n := by
  unfold b8; rw [UInt8.toNat_ofNat']; omega
theorem b8_nat (c : UInt8) : b8 (c.toNat : Int) = c := by unfold b8; simp
theorem str_snoc (s : ByteArray) (c : UInt8) : (s ++ ⟨#[c]⟩ : ByteArray).data.toList = s.data.toList ++ [c] := by
  rw [Go.Joins.data_append]
/-- 'string([]byte{c})'. -/
theorem run_conv_one {P : Program} {src dst e : TypeId} (hs : P.underlying src = some (.slice e)) (he : P.underlying e = some (.int .u8)) (hd : P.underlying dst = some .string) (w : World) (n : Int) :
    (convert src dst (.slice (some ⟨w.heap.size, 0, none⟩) 1 1)).run P (w.alloc (.cells #[.int .u8 n] e)) = .ok (.string ⟨#[b8 n]⟩) (w.alloc (.cells #[.int .u8 n] e)) := by
  have h := run_convert_bytes_arg (P := P) (w.alloc (.cells #[.int .u8 n] e)) src e hs he w.heap.size 0 1 1 [n] rfl (by
    intro i hi
    have : i = 0 := by omega
    subst this
    simp) dst hd
  exact h
end Go.Proofs.Ytbjlmodabiadfaa
namespace Go.Proofs.Ytbjlmodabiadfaa
open Go.RowKit

theorem block_of_add (a : Addr) (n : Nat) : (a.add n).block = a.block := by unfold Addr.add; split <;> rfl
theorem add_of_add (a : Addr) (i j : Nat) : (a.add i).add j = a.add (i + j) := by
  unfold Addr.add
  by_cases hi : i = 0 <;> by_cases hj : j = 0 <;> simp [hi, hj, Nat.add_assoc]
theorem add_plain (b o i : Nat) : (⟨b, o, none⟩ : Addr).add i = ⟨b, o + i, none⟩ := by
  unfold Addr.add; split <;> simp_all

/-- The slice value (address A, n elements of `size` cells) reads as the cells xs; it lies below block B. -/
def Reads (w : World) (B size : Nat) (A : Option Addr) (n : Nat) (xs : List Value) : Prop :=
  xs.length = n * size ∧ (0 < n → ∃ b o, A = some ⟨b, o, none⟩ ∧ b < B ∧ ∀ j u, xs[j]? = some u → w.cell? ⟨b, o + j, none⟩ = some u)

section
variable {w w' : World} {B B' size n : Nat} {A : Option Addr} {xs : List Value}
theorem Reads.nil_ : Reads w B size A 0 [] := ⟨by simp, fun h => absurd h (by omega)⟩
theorem Reads.keep (h : Reads w B size A n xs) (hk : ∀ p : Addr, p.block < B → w'.cell? p = w.cell? p) : Reads w' B size A n xs :=
  ⟨h.1, fun hn => by
    obtain ⟨b, o, e, hb, hc⟩ := h.2 hn
    exact ⟨b, o, e, hb, fun j u hu => (hk _ hb).trans (hc j u hu)⟩⟩
theorem Reads.congr_ {ys : List Value} (h : Reads w B size A n xs) (e : ys = xs) : Reads w B size A n ys := e ▸ h
theorem Reads.more (h : Reads w B size A n xs) (hB : B ≤ B') : Reads w B' size A n xs :=
  ⟨h.1, fun hn => by
    obtain ⟨b, o, e, hb, hc⟩ := h.2 hn
    exact ⟨b, o, e, by omega, hc⟩⟩
theorem Reads.below (h : Reads w B size A n xs) (hb : Below B w w') : Reads w' B size A n xs := h.keep fun _ hp => hb.cell hp
theorem Reads.drew (h : Reads w B size A n xs) : Reads w.drew B size A n xs := h
theorem Reads.drewN (h : Reads w B size A n xs) (k : Nat) : Reads (w.drewN k) B size A n xs := h
theorem Reads.alloc (h : Reads w B size A n xs) (hB : B ≤ w.heap.size) (o : Obj) : Reads (w.alloc o) B size A n xs := h.keep fun p hp => World.cell?_alloc_lt w o p (by omega)
theorem Reads.setCell (h : Reads w B size A n xs) {p : Addr} (hB : B ≤ p.block) (u : Value) : Reads (w.setCell p u) B size A n xs :=
  h.keep fun q hq => World.cell?_setCell_other w p q u (fun e => by subst e; omega)
theorem Reads.grown (h : Reads w B size A n xs) {row : Option Nat} (hg : w.grownBy w' row) (hB : B ≤ w.heap.size) (hr : ∀ g, row = some g → B ≤ g) : Reads w' B size A n xs :=
  h.keep fun p hp => World.cell?_of_block (hg.block p.block (by omega) (fun e => by have := hr _ e.symm; omega))
theorem Reads.cut (h : Reads w B size A n xs) {k cap : Nat} (hk : k ≤ n) (hc : n ≤ cap) :
    Reads w B size (if cap = k then A else A.map (·.add (k * size))) (n - k) (xs.drop (k * size)) := by
  refine ⟨by rw [List.length_drop, h.1, Nat.sub_mul], fun hn => ?_⟩
  obtain ⟨b, o, rfl, hb, hcell⟩ := h.2 (by omega)
  rw [if_neg (by omega)]
  refine ⟨b, o + k * size, by simp [add_plain], hb, fun j u hu => ?_⟩
  rw [Nat.add_assoc]
  exact hcell _ u (by rw [← hu, List.getElem?_drop])
theorem Reads.take (h : Reads w B size A n xs) {k : Nat} (hk : k ≤ n) : Reads w B size A k (xs.take (k * size)) := by
  refine ⟨by rw [List.length_take, h.1]; exact Nat.min_eq_left (Nat.mul_le_mul_right _ hk), fun hn => ?_⟩
  obtain ⟨b, o, rfl, hb, hcell⟩ := h.2 (by omega)
  refine ⟨b, o, rfl, hb, fun j u hu => hcell j u ?_⟩
  rw [List.getElem?_take] at hu
  split at hu
  · exact hu
  · cases hu
end

/-! ### a row of the call's own -/

/-- The slice value (address A, n elements of `size` cells, room for cap) lies in a block from `base` on; its cells up to the capacity are there and not frozen; the first read xs. -/
def Row (w : World) (base size : Nat) (A : Option Addr) (n cap : Nat) (xs : List Value) : Prop :=
  xs.length = n * size ∧ n ≤ cap ∧ cap ≤ maxLen ∧ (A = none → cap = 0) ∧
  ∀ ad, A = some ad → ∃ g o, ad = ⟨g, o, none⟩ ∧ base ≤ g ∧ g < w.heap.size ∧
    (∀ j, j < cap * size → (w.cell? ⟨g, o + j, none⟩).isSome = true ∧ w.frozen? ⟨g, o + j, none⟩ = false) ∧
    ∀ j u, xs[j]? = some u → w.cell? ⟨g, o + j, none⟩ = some u

section
variable {w w' : World} {base base' size n cap : Nat} {A : Option Addr} {xs : List Value}
theorem Row.length (h : Row w base size A n cap xs) : xs.length = n * size := h.1
theorem Row.nil_ (w : World) (base size : Nat) : Row w base size none 0 0 [] := ⟨by simp, Nat.le_refl _, Nat.zero_le _, fun _ => rfl, fun _ h => by cases h⟩
theorem Row.reads (h : Row w base size A n cap xs) : Reads w w.heap.size size A n xs := by
  obtain ⟨h1, h2, h3, h4, h5⟩ := h
  refine ⟨h1, fun hn => ?_⟩
  cases A with
  | none => have := h4 rfl; omega
  | some ad =>
    obtain ⟨g, o, rfl, _, hlt, _, hc⟩ := h5 _ rfl
    exact ⟨g, o, rfl, hlt, hc⟩
/-- What a row reads turns with its own block alone. -/
theorem Row.of_block (h : Row w base size A n cap xs) (hb : ∀ ad, A = some ad → w'.heap[ad.block]? = w.heap[ad.block]?) : Row w' base size A n cap xs := by
  obtain ⟨h1, h2, h3, h4, h5⟩ := h
  refine ⟨h1, h2, h3, h4, fun ad e => ?_⟩
  obtain ⟨g, o, rfl, hg, hlt, hr, hc⟩ := h5 _ e
  have hk := hb _ e
  have hlt' : g < w'.heap.size := by
    rcases Nat.lt_or_ge g w'.heap.size with h' | h'
    · exact h'
    · have h1 : w'.heap[g]? = none := Array.getElem?_eq_none h'
      rw [h1] at hk
      simp [Array.getElem?_eq_getElem hlt] at hk
  refine ⟨g, o, rfl, hg, hlt', fun j hj => ?_, fun j u hu => ?_⟩
  · rw [World.cell?_of_block (w := w) (a := ⟨g, o + j, none⟩) hk, World.frozen?_of_block (w := w) (a := ⟨g, o + j, none⟩) hk]
    exact hr j hj
  · rw [World.cell?_of_block (w := w) (a := ⟨g, o + j, none⟩) hk]
    exact hc j u hu
theorem Row.lt (h : Row w base size A n cap xs) : ∀ ad, A = some ad → base ≤ ad.block ∧ ad.block < w.heap.size := by
  intro ad e
  obtain ⟨g, o, rfl, hg, hlt, _⟩ := h.2.2.2.2 _ e
  exact ⟨hg, hlt⟩
theorem Row.mono (h : Row w base size A n cap xs) (hb : base' ≤ base) : Row w base' size A n cap xs := by
  obtain ⟨h1, h2, h3, h4, h5⟩ := h
  refine ⟨h1, h2, h3, h4, fun ad e => ?_⟩
  obtain ⟨g, o, r1, hg, r⟩ := h5 _ e
  exact ⟨g, o, r1, by omega, r⟩
theorem Row.drew (h : Row w base size A n cap xs) : Row w.drew base size A n cap xs := h
theorem Row.drewN (h : Row w base size A n cap xs) (k : Nat) : Row (w.drewN k) base size A n cap xs := h
theorem Row.alloc (h : Row w base size A n cap xs) (o : Obj) : Row (w.alloc o) base size A n cap xs :=
  h.of_block fun ad e => Below.heap_alloc w o ad.block (h.lt ad e).2
theorem Row.far (h : Row w base size A n cap xs) {p : Addr} (hp : ∀ ad, A = some ad → ad.block ≠ p.block) (u : Value) : Row (w.setCell p u) base size A n cap xs :=
  h.of_block fun ad e => Below.heap_setCell w p u ad.block (hp ad e)
theorem Row.below {B : Nat} (h : Row w base size A n cap xs) (hb : Below B w w') (hB : w.heap.size ≤ B) : Row w' base size A n cap xs :=
  h.of_block fun ad e => hb.block ad.block (by have := (h.lt ad e).2; omega)
theorem Row.grown {row : Option Nat} (h : Row w base size A n cap xs) (hg : w.grownBy w' row) (hr : ∀ ad, A = some ad → some ad.block ≠ row) : Row w' base size A n cap xs :=
  h.of_block fun ad e => hg.block ad.block (h.lt ad e).2 (hr ad e)
theorem Row.cut (h : Row w base size A n cap xs) {k : Nat} (hk : k ≤ n) : Row w base size (if cap = k then A else A.map (·.add (k * size))) (n - k) (cap - k) (xs.drop (k * size)) := by
  obtain ⟨h1, h2, h3, h4, h5⟩ := h
  refine ⟨by rw [List.length_drop, h1, Nat.sub_mul], by omega, by omega, ?_, ?_⟩
  · intro e
    split at e
    · have := h4 e; omega
    · cases A with
      | none => have := h4 rfl; omega
      | some ad => cases e
  · intro ad e
    split at e
    · next hck =>
      obtain ⟨g, o, rfl, hg, hlt, hr, hc⟩ := h5 _ e
      refine ⟨g, o, rfl, hg, hlt, fun j hj => ?_, fun j u hu => ?_⟩
      · rw [show cap - k = 0 by omega] at hj; omega
      · have : n = k := by omega
        subst this
        rw [List.drop_of_length_le (by rw [h1]; exact Nat.le_refl _)] at hu
        simp at hu
    · cases A with
      | none => cases e
      | some ad0 =>
        obtain ⟨g, o, rfl, hg, hlt, hr, hc⟩ := h5 _ rfl
        simp only [Option.map_some, Option.some.injEq, add_plain] at e
        subst e
        refine ⟨g, o + k * size, rfl, hg, hlt, fun j hj => ?_, fun j u hu => ?_⟩
        · rw [Nat.add_assoc]
          refine hr _ ?_
          rw [Nat.sub_mul] at hj
          omega
        · rw [Nat.add_assoc]
          exact hc _ u (by rw [← hu, List.getElem?_drop])
theorem Row.take (h : Row w base size A n cap xs) {k : Nat} (hk : k ≤ n) : Row w base size A k cap (xs.take (k * size)) := by
  obtain ⟨h1, h2, h3, h4, h5⟩ := h
  refine ⟨by rw [List.length_take, h1]; exact Nat.min_eq_left (Nat.mul_le_mul_right _ hk), by omega, h3, h4, fun ad e => ?_⟩
  obtain ⟨g, o, r1, hg, hlt, hr, hc⟩ := h5 _ e
  refine ⟨g, o, r1, hg, hlt, hr, fun j u hu => hc j u ?_⟩
  rw [List.getElem?_take] at hu
  split at hu
  · exact hu
  · cases hu
theorem Row.of_own {e : TypeId} {v : Value} (h : w.ownsRow base e size v n xs) : ∃ A cap, v = .slice A n cap ∧ Row w base size A n cap xs := by
  obtain ⟨h1, h2⟩ := h
  rcases h2 with ⟨rfl, rfl⟩ | ⟨g, cap, cur, rfl, hg, hh, hnc, hm, hs, ht⟩
  · exact ⟨none, 0, rfl, h1, Nat.le_refl _, Nat.zero_le _, fun _ => rfl, fun _ h => by cases h⟩
  · refine ⟨_, cap, rfl, h1, hnc, hm, (fun h => by cases h), fun ad e => ?_⟩
    simp only [Option.some.injEq] at e
    subst e
    have hlt : g < w.heap.size := (Array.getElem?_eq_some_iff.1 hh).1
    refine ⟨g, 0, rfl, hg, hlt, fun j hj => ?_, fun j u hu => ?_⟩
    · simp only [Nat.zero_add]
      constructor
      · simp [World.cell?, hh, hs, hj]
      · simp [World.frozen?, hh]
    · simp only [Nat.zero_add]
      rw [← ht, List.getElem?_take] at hu
      split at hu
      · simp [World.cell?, hh, ← hu]
      · cases hu
theorem Row.of_rowIs {g : Nat} {t : TypeId} {f : Nat → Value} (h : w.rowIs g t n f) (hg : base ≤ g) (hn : n ≤ maxLen) : Row w base 1 (some ⟨g, 0, none⟩) n n ((List.range n).map f) := by
  refine ⟨by simp, Nat.le_refl _, hn, (fun h => by cases h), fun ad e => ?_⟩
  simp only [Option.some.injEq] at e
  subst e
  refine ⟨g, 0, rfl, hg, h.lt, fun j hj => ?_, fun j u hu => ?_⟩
  · rw [Nat.zero_add]
    exact ⟨by rw [h.cell (by omega)]; rfl, h.frozen j⟩
  · rw [Nat.zero_add]
    obtain ⟨hj, hv⟩ := List.getElem?_eq_some_iff.1 hu
    simp only [List.length_map, List.length_range] at hj
    rw [h.cell hj]
    simpa using hv
end

/-! ### bytes -/
/-- Bytes as cells. -/
def bv (l : List UInt8) : List Value := l.map fun c => .int .u8 (c.toNat : Int)
theorem length_bv (l : List UInt8) : (bv l).length = l.length := by simp [bv]
theorem bv_append (a b : List UInt8) : bv (a ++ b) = bv a ++ bv b := by simp [bv]
theorem bv_at (l : List UInt8) (j : Nat) (h : j < l.length) : (bv l)[j]? = some (.int .u8 (l[j].toNat : Int)) := by simp [bv, h]
theorem bv_one (l : List UInt8) : ∀ u ∈ bv l, u.oneCell' = true := by
  intro u hu
  obtain ⟨c, _, rfl⟩ := List.mem_map.1 hu
  rfl
theorem bv_inj {a b : List UInt8} (h : bv a = bv b) : a = b := by
  apply List.ext_getElem?
  intro i
  have := congrArg (·[i]?) h
  simp only [bv, List.getElem?_map] at this
  cases ha : a[i]? <;> cases hb : b[i]? <;> simp [ha, hb] at this ⊢
  exact UInt8.toNat_inj.1 (by omega)
theorem bv_drop (l : List UInt8) (k : Nat) : bv (l.drop k) = (bv l).drop k := by simp [bv, List.map_drop]
theorem bv_take (l : List UInt8) (k : Nat) : bv (l.take k) = (bv l).take k := by simp [bv, List.map_take]

/-- 'string(b)'. -/
theorem run_conv_bytes {P : Program} {src dst e : TypeId} (hs : P.underlying src = some (.slice e)) (he : P.underlying e = some (.int .u8)) (hd : P.underlying dst = some .string)
    {w : World} {B : Nat} {A : Option Addr} {n cap : Nat} {l : List UInt8} (h : Reads w B 1 A n (bv l)) :
    (convert src dst (.slice A n cap)).run P w = .ok (.string ⟨l.toArray⟩) w := by
  have hl : l.length = n := by have := h.1; rw [length_bv] at this; omega
  cases A with
  | none =>
    have h0 : n = 0 := by
      rcases Nat.eq_zero_or_pos n with h0 | h0
      · exact h0
      · obtain ⟨_, _, e, _⟩ := h.2 h0; cases e
    subst h0
    have : l = [] := List.eq_nil_of_length_eq_zero hl
    subst this
    exact run_convert_bytes_nil w src e hs he 0 cap dst hd
  | some ad =>
    subst hl
    refine run_convert_bytes_back w src dst e ad cap l hs he hd fun j hj => ?_
    obtain ⟨b, o, e, _, hc⟩ := h.2 (by omega)
    simp only [Option.some.injEq] at e
    subst e
    rw [add_plain]
    exact hc j _ (bv_at l j hj)

/-! ### chains; cells of a row -/
theorem thenB {a b c : World} (h : Below a.heap.size a b) (k : Below b.heap.size b c) : Below a.heap.size a c := h.trans (k.mono h.size)
section
variable {w w' : World} {base size n cap g o : Nat} {xs : List Value}
theorem Row.at_ (h : Row w base size (some ⟨g, o, none⟩) n cap xs) : base ≤ g ∧ g < w.heap.size ∧ (∀ j, j < cap * size → (w.cell? ⟨g, o + j, none⟩).isSome = true ∧ w.frozen? ⟨g, o + j, none⟩ = false) ∧ ∀ j u, xs[j]? = some u → w.cell? ⟨g, o + j, none⟩ = some u := by
  obtain ⟨g', o', e, h1, h2, h3, h4⟩ := h.2.2.2.2 _ rfl
  simp only [Addr.mk.injEq, and_true] at e
  obtain ⟨rfl, rfl⟩ := e
  exact ⟨h1, h2, h3, h4⟩
theorem Row.cell (h : Row w base size (some ⟨g, o, none⟩) n cap xs) {j : Nat} {u : Value} (hu : xs[j]? = some u) : w.cell? ⟨g, o + j, none⟩ = some u := h.at_.2.2.2 j u hu
theorem Row.free (h : Row w base size (some ⟨g, o, none⟩) n cap xs) {j : Nat} (hj : j < cap * size) : w.frozen? ⟨g, o + j, none⟩ = false := (h.at_.2.2.1 j hj).2
theorem frozen?_setCell (w : World) (p q : Addr) (u : Value) : (w.setCell p u).frozen? q = w.frozen? q := by
  by_cases h : q.block = p.block
  · simp only [World.frozen?, World.setCell, Array.getElem?_modify, h]
    simp only [if_true]
    cases hk : w.heap[p.block]? with
    | none => rfl
    | some ob => cases ob <;> rfl
  · exact World.frozen?_of_block (w := w) (Below.heap_setCell w p u q.block h)
theorem Row.set (h : Row w base size (some ⟨g, o, none⟩) n cap xs) {j : Nat} (hj : j < cap * size) (u : Value) : Row (w.setCell ⟨g, o + j, none⟩ u) base size (some ⟨g, o, none⟩) n cap (xs.set j u) := by
  obtain ⟨h1, h2, h3, h4⟩ := h.at_
  refine ⟨by rw [List.length_set]; exact h.1, h.2.1, h.2.2.1, (fun e => by cases e), fun ad e => ?_⟩
  simp only [Option.some.injEq] at e
  subst e
  have hs : ∀ i, (w.setCell ⟨g, o + j, none⟩ u).cell? ⟨g, o + i, none⟩ = if i = j then some u else w.cell? ⟨g, o + i, none⟩ := by
    intro i
    by_cases e : i = j
    · subst e
      rw [if_pos rfl]
      obtain ⟨v, hv⟩ := Option.isSome_iff_exists.1 (h3 i hj).1
      exact World.cell?_setCell_same w _ _ hv
    · rw [if_neg e]
      exact World.cell?_setCell_other w _ _ u (by simp only [ne_eq, Addr.mk.injEq, and_true, true_and]; omega)
  refine ⟨g, o, rfl, h1, by simpa [World.setCell] using h2, fun i hi => ⟨?_, by rw [frozen?_setCell]; exact (h3 i hi).2⟩, fun i v hv => ?_⟩
  · rw [hs]
    split
    · rfl
    · exact (h3 i hi).1
  · rw [hs]
    rw [List.getElem?_set] at hv
    by_cases e : i = j
    · subst e
      rw [if_pos rfl] at hv ⊢
      split at hv
      · exact hv
      · cases hv
    · rw [if_neg e]
      rw [if_neg (fun e' => e e'.symm)] at hv
      exact h4 i v hv
end
theorem bv_set (l : List UInt8) (j : Nat) (c : UInt8) : bv (l.set j c) = (bv l).set j (.int .u8 (c.toNat : Int)) := by simp [bv, List.map_set]

/-- '[]byte(s)'. -/
theorem run_bytes_str {P : Program} {src dst e : TypeId} (hs : P.underlying src = some .string) (hd : P.underlying dst = some (.slice e)) (he : P.underlying e = some (.int .u8)) (s : ByteArray) (hm : s.size ≤ maxLen) (w : World) :
    ∃ c w', (convert src dst (.string s)).run P w = .ok (.slice (some ⟨w.heap.size, 0, none⟩) s.size c) w' ∧ Row w' w.heap.size 1 (some ⟨w.heap.size, 0, none⟩) s.size c (bv s.data.toList) ∧ Below w.heap.size w w' := by
  have hc : s.size ≤ grownCap w s.size 0 e := grownCap_ge w s.size 0 e
  have hcm : grownCap w s.size 0 e ≤ maxLen := grownCap_le_maxLen w s.size 0 e hm
  have hsz : (Lib.bytesCells w e s).size = grownCap w s.size 0 e := by
    have : s.data.size = s.size := rfl
    simp [Lib.bytesCells]; omega
  refine ⟨grownCap w s.size 0 e, Lib.bytesWorld w e s, Lib.run_convert_string_bytes w src dst e s hs hd he, ⟨by rw [length_bv, Nat.mul_one]; simp, hc, hcm, (fun h => by cases h), fun ad h => ?_⟩, ?_⟩
  · simp only [Option.some.injEq] at h
    subst h
    refine ⟨w.heap.size, 0, rfl, Nat.le_refl _, by rw [Lib.bytesWorld_size]; omega, fun j hj => ?_, fun j u hu => ?_⟩
    · rw [Nat.zero_add]
      have hjs : j < (Lib.bytesCells w e s).size := by omega
      constructor
      · simp [World.cell?, Lib.bytesWorld_at_new, hjs]
      · simp only [World.frozen?, Lib.bytesWorld_at_new]
        simp
        omega
    · rw [Nat.zero_add]
      obtain ⟨hj, hv⟩ := List.getElem?_eq_some_iff.1 hu
      rw [length_bv] at hj
      have hj' : j < s.size := by simpa using hj
      rw [Lib.bytesWorld_cell w e s j hj', ← hv]
      simp [bv, List.getD, hj']
  · exact ⟨rfl, rfl, rfl, by rw [Lib.bytesWorld_size]; omega, fun k hk => Lib.bytesWorld_at_old w e s k hk⟩
end Go.Proofs.Ytbjlmodabiadfaa
namespace Go.Proofs.Ytbjlmodabiadfaa
open Go.RowKit

/-- w' is w but for what the cells of the blocks S hold: no block has come or gone, nothing was frozen or let go. -/
structure Only (S : Nat → Prop) (w w' : World) : Prop where
  os : w'.os = w.os
  tape : w'.tape = w.tape
  output : w'.output = w.output
  size : w'.heap.size = w.heap.size
  block : ∀ k, ¬ S k → w'.heap[k]? = w.heap[k]?
  frozen : ∀ a, w'.frozen? a = w.frozen? a
  there : ∀ a, (w'.cell? a).isSome = (w.cell? a).isSome

theorem isSome_setCell (w : World) (p q : Addr) (u : Value) (hp : (w.cell? p).isSome = true) : ((w.setCell p u).cell? q).isSome = (w.cell? q).isSome := by
  by_cases e : q = p
  · subst e
    obtain ⟨v, hv⟩ := Option.isSome_iff_exists.1 hp
    rw [World.cell?_setCell_same w _ _ hv, hv]; rfl
  · rw [World.cell?_setCell_other w p q u (fun h => e h.symm)]

namespace Only
variable {S T : Nat → Prop} {w w' w'' : World}
theorem refl (S : Nat → Prop) (w : World) : Only S w w := ⟨rfl, rfl, rfl, rfl, fun _ _ => rfl, fun _ => rfl, fun _ => rfl⟩
theorem trans (h : Only S w w') (k : Only S w' w'') : Only S w w'' :=
  ⟨k.os.trans h.os, k.tape.trans h.tape, k.output.trans h.output, k.size.trans h.size, fun i hi => (k.block i hi).trans (h.block i hi), fun a => (k.frozen a).trans (h.frozen a), fun a => (k.there a).trans (h.there a)⟩
theorem drew (h : Only S w w') : Only S w w'.drew := ⟨h.os, h.tape, h.output, h.size, h.block, h.frozen, h.there⟩
theorem drewN (h : Only S w w') (n : Nat) : Only S w (w'.drewN n) := ⟨h.os, h.tape, h.output, h.size, h.block, h.frozen, h.there⟩
theorem mono (h : Only S w w') (hs : ∀ k, S k → T k) : Only T w w' := ⟨h.os, h.tape, h.output, h.size, fun k hk => h.block k (fun hh => hk (hs k hh)), h.frozen, h.there⟩
theorem setCell (h : Only S w w') {p : Addr} (hp : S p.block) (hc : (w'.cell? p).isSome = true) (u : Value) : Only S w (w'.setCell p u) :=
  h.trans ⟨rfl, rfl, rfl, by simp [World.setCell], fun _ hk => Below.heap_setCell _ _ _ _ (fun e => hk (e ▸ hp)), fun _ => frozen?_setCell _ _ _ _, fun _ => isSome_setCell _ _ _ _ hc⟩
theorem below (h : Only S w w') {B : Nat} (hB : ∀ k, S k → B ≤ k) : Below B w w' :=
  ⟨h.os, h.tape, h.output, Nat.le_of_eq h.size.symm, fun k hk => h.block k (fun hs => by have := hB k hs; omega)⟩
theorem cell (h : Only S w w') {a : Addr} (ha : ¬ S a.block) : w'.cell? a = w.cell? a := World.cell?_of_block (h.block _ ha)
theorem setCells {b : Nat} (hb : S b) : ∀ (vs : List Value) (o : Nat) {w' : World} (_ : Only S w w') (_ : ∀ j, j < vs.length → (w'.cell? ⟨b, o + j, none⟩).isSome = true), Only S w (w'.setCells b o vs)
  | [], _, _, h, _ => h
  | v :: r, o, w', h, hc => by
    have h0 : (w'.cell? ⟨b, o, none⟩).isSome = true := by simpa using hc 0 (by simp)
    refine setCells hb r (o + 1) (h.setCell (p := ⟨b, o, none⟩) hb h0 v) fun j hj => ?_
    rw [isSome_setCell _ _ _ _ h0, show o + 1 + j = o + (j + 1) by omega]
    exact hc (j + 1) (by simp; omega)
end Only

theorem cell?_new (w : World) (cs : Array Value) (t : TypeId) (j : Nat) : (w.alloc (.cells cs t)).cell? ⟨w.heap.size, j, none⟩ = cs[j]? := by
  have e := (MapKept.heap_alloc w (.cells cs t)).1
  simp only [World.cell?]
  rw [e]
  rfl
theorem frozen?_new (w : World) (cs : Array Value) (t : TypeId) (j : Nat) : (w.alloc (.cells cs t)).frozen? ⟨w.heap.size, j, none⟩ = false := by
  have e := (MapKept.heap_alloc w (.cells cs t)).1
  simp only [World.frozen?]
  rw [e]
  simp

section
variable {S : Nat → Prop} {w w' : World} {base B size n cap : Nat} {A : Option Addr} {xs : List Value}
theorem Row.only (h : Row w base size A n cap xs) (ho : Only S w w') (hs : ∀ ad, A = some ad → ¬ S ad.block) : Row w' base size A n cap xs :=
  h.of_block fun ad e => ho.block _ (hs ad e)
theorem Reads.only (h : Reads w B size A n xs) (ho : Only S w w') (hs : ∀ k, k < B → ¬ S k) : Reads w' B size A n xs :=
  h.keep fun _ hp => ho.cell (hs _ hp)
/-- Whatever its cells hold now, it is a row still. -/
theorem Row.any (h : Row w base size A n cap xs) (ho : Only S w w') : ∃ ys, Row w' base size A n cap ys := by
  obtain ⟨h1, h2, h3, h4, h5⟩ := h
  cases A with
  | none => exact ⟨xs, h1, h2, h3, h4, (fun ad e => by cases e)⟩
  | some ad =>
    obtain ⟨g, o, rfl, hg, hlt, hr, hc⟩ := h5 _ rfl
    refine ⟨(List.range (n * size)).map fun j => (w'.cell? ⟨g, o + j, none⟩).getD undef, by simp, h2, h3, (fun e => by cases e), fun ad e => ?_⟩
    simp only [Option.some.injEq] at e
    subst e
    refine ⟨g, o, rfl, hg, by rw [ho.size]; exact hlt, fun j hj => by rw [ho.there, ho.frozen]; exact hr j hj, fun j u hu => ?_⟩
    obtain ⟨hj, hv⟩ := List.getElem?_eq_some_iff.1 hu
    simp only [List.length_map, List.length_range] at hj
    have := (hr j (Nat.lt_of_lt_of_le hj (Nat.mul_le_mul_right _ h2))).1
    rw [← ho.there] at this
    obtain ⟨v, hv'⟩ := Option.isSome_iff_exists.1 this
    rw [hv', ← hv]
    simp [hv']
theorem Reads.lit (w : World) (cs : Array Value) (t : TypeId) (hn : cs.size = n * size) : Reads (w.alloc (.cells cs t)) (w.heap.size + 1) size (some ⟨w.heap.size, 0, none⟩) n cs.toList := by
  refine ⟨by simpa using hn, fun _ => ⟨_, _, rfl, by omega, fun j u hu => ?_⟩⟩
  rw [Nat.zero_add]
  rw [Array.getElem?_toList] at hu
  rw [cell?_new, hu]
theorem Row.lit (w : World) (cs : Array Value) (t : TypeId) (hn : cs.size = n * size) (hb : base ≤ w.heap.size) (hm : n ≤ maxLen) : Row (w.alloc (.cells cs t)) base size (some ⟨w.heap.size, 0, none⟩) n n cs.toList := by
  refine ⟨by simpa using hn, Nat.le_refl _, hm, (fun e => by cases e), fun ad e => ?_⟩
  simp only [Option.some.injEq] at e
  subst e
  refine ⟨_, _, rfl, hb, by simp, fun j hj => ?_, fun j u hu => ?_⟩
  · rw [Nat.zero_add]
    rw [cell?_new, frozen?_new]
    exact ⟨by simp [hn, hj], rfl⟩
  · rw [Nat.zero_add]
    rw [Array.getElem?_toList] at hu
    rw [cell?_new, hu]
end

/-- The cell behind the last one written: one element more. -/
theorem Row.ext1 {w : World} {base n cap g o : Nat} {xs : List Value} (h : Row w base 1 (some ⟨g, o, none⟩) n cap xs) (hn : n < cap) (u : Value) : Row (w.setCell ⟨g, o + n, none⟩ u) base 1 (some ⟨g, o, none⟩) (n + 1) cap (xs ++ [u]) := by
  obtain ⟨hb, hlt, hcell, hx⟩ := h.at_
  have hxl : xs.length = n := by have := h.1; omega
  obtain ⟨v, hv⟩ := Option.isSome_iff_exists.1 (hcell n (by omega)).1
  refine ⟨by simp [hxl], hn, h.2.2.1, (fun e => by cases e), fun ad e => ?_⟩
  simp only [Option.some.injEq] at e
  subst e
  refine ⟨g, o, rfl, hb, by simpa [World.setCell] using hlt, fun j hj => by rw [isSome_setCell _ _ _ _ (by rw [hv]; rfl), frozen?_setCell]; exact hcell j hj, fun j z hz => ?_⟩
  rcases Nat.lt_or_ge j n with hj | hj
  · rw [World.cell?_setCell_other w _ _ u (by simp only [ne_eq, Addr.mk.injEq, and_true, true_and]; omega)]
    rw [List.getElem?_append_left (by omega)] at hz
    exact hx j z hz
  · have hj2 : j < n + 1 := by have := (List.getElem?_eq_some_iff.1 hz).1; simp [hxl] at this; omega
    obtain rfl : j = n := by omega
    rw [World.cell?_setCell_same w _ _ hv]
    rw [List.getElem?_append_right (by omega)] at hz
    simpa [hxl] using hz

/-! ### copy -/
theorem run_copy_any {P : Program} {dT sT ty elem : TypeId} (hu : P.underlying dT = some (.slice elem)) (hs : (P.info? elem).map (·.size) = some 1)
    {w : World} {base n cap g o : Nat} {xs : List Value} (hd : Row w base 1 (some ⟨g, o, none⟩) n cap xs) {B m c : Nat} {A : Option Addr} {ys : List Value} (hr : Reads w B 1 A m ys) (h1 : ∀ v ∈ ys, v.oneCell' = true) :
    ∃ w', (Builtin.copy_ #[dT, sT] ty #[.slice (some ⟨g, o, none⟩) n cap, .slice A m c]).run P w = .ok (goInt (Nat.min m n : Nat)) w' ∧
      Row w' base 1 (some ⟨g, o, none⟩) n cap (ys.take (Nat.min m n) ++ xs.drop (Nat.min m n)) ∧ Only (· = g) w w' := by
  obtain ⟨hb, hlt, hcell, hx⟩ := hd.at_
  have hxl : xs.length = n := by have := hd.1; omega
  have hyl : ys.length = m := by have := hr.1; omega
  have hnc := hd.2.1
  by_cases h0 : Nat.min m n = 0
  · exact ⟨w, by rw [h0]; exact run_copy_none w dT sT ty elem _ _ n cap m c hu hs h0, by rw [h0]; simpa using hd, Only.refl _ _⟩
  · have hm0 : 0 < m := by rcases Nat.eq_zero_or_pos m with h | h; · subst h; exact absurd (Nat.zero_min n) h0
                           · exact h
    obtain ⟨b2, o2, rfl, _, hsrc⟩ := hr.2 hm0
    have hk1 : Nat.min m n ≤ m := Nat.min_le_left _ _
    have hk2 : Nat.min m n ≤ n := Nat.min_le_right _ _
    generalize hk : Nat.min m n = k at *
    have hcl : (ys.take k).length = k := by rw [List.length_take]; omega
    have hrun := run_copy_cells (P := P) w dT sT ty elem g o n cap ⟨b2, o2, none⟩ m c (ys.take k) hu hs (by rw [hcl]; exact hk.symm) (fun j v hj => by
      rw [add_plain]
      rw [List.getElem?_take] at hj
      split at hj
      · exact hsrc j v hj
      · cases hj) (fun j hj => (hcell j (by omega)).1) (fun j hj => (hcell j (by omega)).2) (fun v hv => h1 v (List.mem_of_mem_take hv))
    rw [hcl] at hrun
    have hon : Only (· = g) w (w.setCells g o (ys.take k)) := Only.setCells (S := (· = g)) rfl _ _ (Only.refl _ _) fun j hj => (hcell j (by omega)).1
    refine ⟨_, hrun, ⟨by rw [List.length_append, hcl, List.length_drop]; omega, hnc, hd.2.2.1, (fun e => by cases e), fun ad e => ?_⟩, hon⟩
    simp only [Option.some.injEq] at e
    subst e
    refine ⟨g, o, rfl, hb, by rw [hon.size]; exact hlt, fun j hj => by rw [hon.there, hon.frozen]; exact hcell j hj, fun j u hu' => ?_⟩
    rcases Nat.lt_or_ge j k with hj | hj
    · have := World.cell?_setCells_in g (ys.take k) o w (fun i hi => (hcell i (by omega)).1) j (by omega)
      rw [this]
      rw [List.getElem?_append_left (by omega), List.getElem?_eq_getElem (by omega)] at hu'
      exact hu'
    · rw [World.cell?_setCells_out g (ys.take k) o w ⟨g, o + j, none⟩ (fun _ _ => .inr (by rw [hcl]; show o + k ≤ o + j; omega))]
      rw [List.getElem?_append_right (by omega), hcl, List.getElem?_drop, show k + (j - k) = j by omega] at hu'
      exact hx j u hu'

theorem wpList_copy_any {P : Program} {w : World} {ops : Array Oper} {rest : List Oper} {o : Oper} {a : Act} {Q : Exit → Act → World → Prop} (hgd : o.guard = none) (d s : Operand) (dT sT : TypeId)
    (ho : o.op = .call { callee := .builtin .copy, args := #[d, s], argTypes := #[dT, sT] }) {elem : TypeId} (hu : P.underlying dT = some (.slice elem)) (hsz : (P.info? elem).map (·.size) = some 1)
    {base n cap g off : Nat} {xs : List Value} (hd : a.eval d = .slice (some ⟨g, off, none⟩) n cap) (hrow : Row w base 1 (some ⟨g, off, none⟩) n cap xs)
    {B m c : Nat} {A : Option Addr} {ys : List Value} (hs : a.eval s = .slice A m c) (hr : Reads w B 1 A m ys) (h1 : ∀ v ∈ ys, v.oneCell' = true)
    (h : ∀ w', Row w' base 1 (some ⟨g, off, none⟩) n cap (ys.take (Nat.min m n) ++ xs.drop (Nat.min m n)) → Only (· = g) w w' → wpList P ops Q rest (a.put o.dst (goInt (Nat.min m n : Nat))) w') :
    wpList P ops Q (o :: rest) a w := by
  refine wpList_plain hgd fun K hK => ?_
  obtain ⟨w', hrun, h2, h3⟩ := run_copy_any (P := P) (sT := sT) (ty := o.type) (c := c) hu hsz hrow hr h1
  unfold Oper.wp
  simp only [execOp, ho, resolve, invoke, builtin, Sem.run_bind, Sem.run_pure, Result.andThen_ok, List.map_toArray, List.map_cons, List.map_nil, hd, hs, hrun]
  exact hK _ _ (h w' h2 h3)

/-! ### append -/
theorem run_append_row {P : Program} {t ty e : TypeId} {i : TypeInfo} {z : Value} {size bytes : Nat} (ht : P.underlying t = some (.slice e)) (hi : P.info? e = some i) (hz : i.zero = some z)
    (hsize : i.size = size) (hby : i.bytes = bytes) (hzs : z.cells.size = size) (hsz : 0 < size)
    {w : World} {base n cap : Nat} {A : Option Addr} {xs : List Value} (hd : Row w base size A n cap xs) {B m c : Nat} {A2 : Option Addr} {ys : List Value} (hr : Reads w B size A2 m ys) (h1 : ∀ v ∈ ys, v.oneCell' = true)
    (h63 : n + m ≤ maxLen) (hbytes : (n + m) * bytes ≤ 140737488355328) (hbase : base ≤ w.heap.size) :
    ∃ A' cap' w', (Builtin.append_ #[t, t] ty #[.slice A n cap, .slice A2 m c]).run P w = .ok (.slice A' (n + m) cap') w' ∧ Row w' base size A' (n + m) cap' (xs ++ ys) ∧ w.grownBy w' (A.map (·.block)) ∧
      (A' = A ∨ ∃ ad, A' = some ad ∧ w.heap.size ≤ ad.block) := by
  have hxl := hd.1
  have hyl := hr.1
  by_cases hm0 : m = 0
  · -- nothing is appended
    subst hm0
    have hy : ys = [] := List.eq_nil_of_length_eq_zero (by simpa using hyl)
    subst hy
    refine ⟨A, cap, w, ?_, by simpa using hd, ⟨rfl, rfl, rfl, Nat.le_refl _, fun _ _ _ => rfl⟩, .inl rfl⟩
    have hnc := hd.2.1
    have hl0 : ∀ x : Addr, (loadCells x 0).run P w = .ok #[] w := fun x => by simpa using run_loadCells_list (P := P) w x [] (by simp)
    cases A2 <;> cases A <;> simp [Builtin.append_, run_underlying ht, sizeOf, typeInfo, hi, Builtin.lenOf, Builtin.firstCells, hnc, storeCells, hl0]
  · obtain ⟨b2, o2, rfl, _, hsrc⟩ := hr.2 (by omega)
    have hsrc' : ∀ j u, ys[j]? = some u → w.cell? ((⟨b2, o2, none⟩ : Addr).add j) = some u := fun j u hu => by rw [add_plain]; exact hsrc j u hu
    cases hA : A with
    | none =>
      subst hA
      have hc0 := hd.2.2.2.1 rfl
      have hnc := hd.2.1
      obtain rfl : cap = 0 := hc0
      obtain rfl : n = 0 := by omega
      obtain rfl : xs = [] := List.eq_nil_of_length_eq_zero (by simpa using hxl)
      obtain ⟨v', w', hrun, hown, hgr, _⟩ := run_append_own (P := P) w w.heap.size t ty e i z size bytes ht hi hz hsize hby hzs hsz (.slice none 0 0) 0 [] (World.ownsRow_nil w _ e size) ⟨b2, o2, none⟩ m c ys hyl hsrc' h1 h63 hbytes (Nat.le_refl _)
      obtain ⟨A', cap', rfl, hrow⟩ := Row.of_own hown
      have hat : A' = none ∨ ∃ ad, A' = some ad ∧ w.heap.size ≤ ad.block := by
        cases A' with
        | none => exact .inl rfl
        | some ad => exact .inr ⟨ad, rfl, (hrow.lt ad rfl).1⟩
      exact ⟨A', cap', w', hrun, hrow.mono hbase, hgr, hat⟩
    | some ad =>
      subst hA
      obtain ⟨g, o, rfl, hg, hlt, hcell, hx⟩ := hd.2.2.2.2 _ rfl
      by_cases hroom : n + m ≤ cap
      · have hsp : ∀ j, j < ys.length → n * size + j < cap * size := fun j hj => by
          have h2 : (n + m) * size ≤ cap * size := Nat.mul_le_mul_right _ hroom
          rw [Nat.add_mul] at h2
          omega
        have hrun := run_append_room_cells (P := P) w t ty e i ht hi g o n cap ⟨b2, o2, none⟩ m c ys (by rw [hsize]; exact hyl) hsrc' h1 hroom
          (fun j hj => by rw [hsize, Nat.add_assoc]; exact (hcell _ (hsp j hj)).1) (fun j hj => by rw [hsize, Nat.add_assoc]; exact (hcell _ (hsp j hj)).2)
        rw [hsize] at hrun
        have hon : Only (· = g) w (w.setCells g (o + n * size) ys) := Only.setCells (S := (· = g)) rfl _ _ (Only.refl _ _) fun j hj => by rw [Nat.add_assoc]; exact (hcell _ (hsp j hj)).1
        refine ⟨_, cap, _, hrun, ⟨by rw [List.length_append, hxl, hyl, Nat.add_mul], hroom, hd.2.2.1, (fun e => by cases e), fun ad e => ?_⟩, ⟨hon.os, hon.tape, hon.output, Nat.le_of_eq hon.size.symm, fun k _ hk => hon.block k (fun e => hk (by rw [e]; rfl))⟩, .inl rfl⟩
        simp only [Option.some.injEq] at e
        subst e
        refine ⟨g, o, rfl, hg, by rw [hon.size]; exact hlt, fun j hj => by rw [hon.there, hon.frozen]; exact hcell j hj, fun j u hu => ?_⟩
        rcases Nat.lt_or_ge j (n * size) with hj | hj
        · rw [World.cell?_setCells_out g ys (o + n * size) w ⟨g, o + j, none⟩ (fun _ _ => .inl (by show o + j < o + n * size; omega))]
          rw [List.getElem?_append_left (by omega)] at hu
          exact hx j u hu
        · rw [List.getElem?_append_right (by omega), hxl] at hu
          have hj2 : j - n * size < ys.length := (List.getElem?_eq_some_iff.1 hu).1
          have := World.cell?_setCells_in g ys (o + n * size) w (fun i hi => by rw [Nat.add_assoc]; exact (hcell _ (hsp i hi)).1) (j - n * size) hj2
          rw [show o + n * size + (j - n * size) = o + j by omega] at this
          rw [this, ← hu, List.getElem?_eq_getElem hj2]
      · obtain ⟨v', w', hrun, hown, hgr⟩ := run_append_arg_grows (P := P) w t ty e i z size bytes ht hi hz hsize hby hzs hsz ⟨g, o, none⟩ n cap xs hxl (fun j u hj => by rw [add_plain]; exact hx j u hj) ⟨b2, o2, none⟩ m c ys hyl hsrc' (by omega) h63 hbytes
        obtain ⟨A', cap', rfl, hrow⟩ := Row.of_own hown
        refine ⟨A', cap', w', hrun, hrow.mono hbase, ⟨hgr.os, hgr.tape, hgr.output, hgr.size, fun k hk _ => hgr.block k hk (by simp)⟩, ?_⟩
        cases A' with
        | none =>
          have := hrow.2.2.2.1 rfl
          have := hrow.2.1
          omega
        | some ad => exact .inr ⟨ad, rfl, (hrow.lt ad rfl).1⟩

theorem wpList_append_row {P : Program} {ops : Array Oper} {rest : List Oper} {o : Oper} {a : Act} {Q : Exit → Act → World → Prop} (hgd : o.guard = none) (s x : Operand) {t : TypeId}
    (ho : o.op = .call { callee := .builtin .append, args := #[s, x], argTypes := #[t, t] })
    {e : TypeId} {i : TypeInfo} {z : Value} {size bytes : Nat} (ht : P.underlying t = some (.slice e)) (hi : P.info? e = some i) (hz : i.zero = some z)
    (hsize : i.size = size) (hby : i.bytes = bytes) (hzs : z.cells.size = size) (hsz : 0 < size)
    {w : World} {base n cap : Nat} {A : Option Addr} {xs : List Value} (hs : a.eval s = .slice A n cap) (hd : Row w base size A n cap xs)
    {B m c : Nat} {A2 : Option Addr} {ys : List Value} (hx : a.eval x = .slice A2 m c) (hr : Reads w B size A2 m ys) (h1 : ∀ v ∈ ys, v.oneCell' = true)
    (h63 : n + m ≤ maxLen) (hbytes : (n + m) * bytes ≤ 140737488355328) (hbase : base ≤ w.heap.size)
    (h : ∀ A' cap' w', Row w' base size A' (n + m) cap' (xs ++ ys) → w.grownBy w' (A.map (·.block)) → (A' = A ∨ ∃ ad, A' = some ad ∧ w.heap.size ≤ ad.block) → wpList P ops Q rest (a.put o.dst (.slice A' (n + m) cap')) w') :
    wpList P ops Q (o :: rest) a w := by
  refine wpList_plain hgd fun K hK => ?_
  obtain ⟨A', cap', w', hrun, h2, h3, h4⟩ := run_append_row (P := P) (ty := o.type) (c := c) ht hi hz hsize hby hzs hsz hd hr h1 h63 hbytes hbase
  unfold Oper.wp
  simp only [execOp, ho, resolve, invoke, builtin, Sem.run_bind, Sem.run_pure, Result.andThen_ok, List.map_toArray, List.map_cons, List.map_nil, hs, hx, hrun]
  exact hK _ _ (h A' cap' w' h2 h3 h4)
end Go.Proofs.Ytbjlmodabiadfaa
namespace Go.Proofs.Ytbjlmodabiadfaa
open Go.RowKit

theorem wp_append_row {P : Program} {o : Oper} {a : Act} {K : Act → World → Prop} {Q : Exit → Act → World → Prop} (s x : Operand) {t : TypeId}
    (ho : o.op = .call { callee := .builtin .append, args := #[s, x], argTypes := #[t, t] })
    {e : TypeId} {i : TypeInfo} {z : Value} {size bytes : Nat} (ht : P.underlying t = some (.slice e)) (hi : P.info? e = some i) (hz : i.zero = some z)
    (hsize : i.size = size) (hby : i.bytes = bytes) (hzs : z.cells.size = size) (hsz : 0 < size)
    {w : World} {base n cap : Nat} {A : Option Addr} {xs : List Value} (hs : a.eval s = .slice A n cap) (hd : Row w base size A n cap xs)
    {B m c : Nat} {A2 : Option Addr} {ys : List Value} (hx : a.eval x = .slice A2 m c) (hr : Reads w B size A2 m ys) (h1 : ∀ v ∈ ys, v.oneCell' = true)
    (h63 : n + m ≤ maxLen) (hbytes : (n + m) * bytes ≤ 140737488355328) (hbase : base ≤ w.heap.size)
    (h : ∀ A' cap' w', Row w' base size A' (n + m) cap' (xs ++ ys) → w.grownBy w' (A.map (·.block)) → (A' = A ∨ ∃ ad, A' = some ad ∧ w.heap.size ≤ ad.block) → K (a.put o.dst (.slice A' (n + m) cap')) w') :
    o.wp P a w K Q := by
  obtain ⟨A', cap', w', hrun, h2, h3, h4⟩ := run_append_row (P := P) (ty := o.type) (c := c) ht hi hz hsize hby hzs hsz hd hr h1 h63 hbytes hbase
  unfold Oper.wp execOp
  simp only [ho, resolve, invoke, builtin, Sem.run_bind, Sem.run_pure, Result.andThen_ok, List.map_toArray, List.map_cons, List.map_nil, hs, hx, hrun]
  exact h A' cap' w' h2 h3 h4

theorem step_append_row {P : Program} {ops : Array Oper} {o : Oper} {a : Act} {K : Act → World → Prop} {Q : Exit → Act → World → Prop} {E : Prop} (hgd : o.guard = none) (s x : Operand) {t : TypeId}
    (ho : o.op = .call { callee := .builtin .append, args := #[s, x], argTypes := #[t, t] })
    {e : TypeId} {i : TypeInfo} {z : Value} {size bytes : Nat} (ht : P.underlying t = some (.slice e)) (hi : P.info? e = some i) (hz : i.zero = some z)
    (hsize : i.size = size) (hby : i.bytes = bytes) (hzs : z.cells.size = size) (hsz : 0 < size)
    {w : World} {base n cap : Nat} {A : Option Addr} {xs : List Value} (hs : a.eval s = .slice A n cap) (hd : Row w base size A n cap xs)
    {B m c : Nat} {A2 : Option Addr} {ys : List Value} (hx : a.eval x = .slice A2 m c) (hr : Reads w B size A2 m ys) (h1 : ∀ v ∈ ys, v.oneCell' = true)
    (h63 : n + m ≤ maxLen) (hbytes : (n + m) * bytes ≤ 140737488355328) (hbase : base ≤ w.heap.size)
    (h : ∀ A' cap' w', Row w' base size A' (n + m) cap' (xs ++ ys) → w.grownBy w' (A.map (·.block)) → (A' = A ∨ ∃ ad, A' = some ad ∧ w.heap.size ≤ ad.block) → K (a.put o.dst (.slice A' (n + m) cap')) w') :
    if Region.wanted o (yielded ops a.tmps) = true then Oper.wp P o a w K Q else E := by
  have hw : Region.wanted o (yielded ops a.tmps) = true := by simp [Region.wanted, hgd]
  rw [if_pos hw]
  exact wp_append_row s x ho ht hi hz hsize hby hzs hsz hs hd hx hr h1 h63 hbytes hbase h
/-- What append may write lies from B on. -/
theorem Row.blocks {w : World} {base size n cap : Nat} {A : Option Addr} {xs : List Value} (h : Row w base size A n cap xs) : ∀ k, A.map (·.block) = some k → base ≤ k := fun k hk => by
  cases A with
  | none => cases hk
  | some ad => simp only [Option.map_some, Option.some.injEq] at hk; rw [← hk]; exact (h.lt ad rfl).1
end Go.Proofs.Ytbjlmodabiadfaa
namespace Go.Proofs.Ytbjlmodabiadfaa
open Go.RowKit

/-- Block g is just these cells, none frozen. -/
def Blk (w : World) (g : Nat) (t : TypeId) (cs : Array Value) : Prop := w.heap[g]? = some (.cells cs t (0, 0))
section
variable {w w' : World} {g : Nat} {t : TypeId} {cs : Array Value}
theorem Blk.lt (h : Blk w g t cs) : g < w.heap.size := (Array.getElem?_eq_some_iff.1 h).1
theorem Blk.cell (h : Blk w g t cs) (i : Nat) : w.cell? ⟨g, i, none⟩ = cs[i]? := by
  unfold Blk at h
  simp only [World.cell?]
  rw [h]; rfl
theorem Blk.frozen (h : Blk w g t cs) (i : Nat) : w.frozen? ⟨g, i, none⟩ = false := by
  unfold Blk at h
  simp [World.frozen?, h]
theorem Blk.new (w : World) (t : TypeId) (cs : Array Value) : Blk (w.alloc (.cells cs t)) w.heap.size t cs := (MapKept.heap_alloc w _).1
theorem Blk.drew (h : Blk w g t cs) : Blk w.drew g t cs := h
theorem Blk.drewN (h : Blk w g t cs) (n : Nat) : Blk (w.drewN n) g t cs := h
theorem Blk.alloc (h : Blk w g t cs) (o : Obj) : Blk (w.alloc o) g t cs := (Below.heap_alloc w o g h.lt).trans h
theorem Blk.set (h : Blk w g t cs) (i : Nat) (u : Value) : Blk (w.setCell ⟨g, i, none⟩ u) g t (cs.setIfInBounds i u) := by
  unfold Blk at h ⊢
  simp [World.setCell, Array.getElem?_modify, h]
theorem Blk.far (h : Blk w g t cs) {p : Addr} (hp : g ≠ p.block) (u : Value) : Blk (w.setCell p u) g t cs := (Below.heap_setCell w p u g hp).trans h
theorem Blk.below {B : Nat} (h : Blk w g t cs) (hb : Below B w w') (hg : g < B) : Blk w' g t cs := (hb.block g hg).trans h
theorem Blk.grown {row : Option Nat} (h : Blk w g t cs) (hb : w.grownBy w' row) (hg : some g ≠ row) : Blk w' g t cs := (hb.block g h.lt hg).trans h
end

theorem grown_trans {a b c : World} {row : Option Nat} (h : a.grownBy b row) (k : b.grownBy c row) : a.grownBy c row :=
  ⟨k.os.trans h.os, k.tape.trans h.tape, k.output.trans h.output, Nat.le_trans h.size k.size, fun i hi hn => (k.block i (Nat.lt_of_lt_of_le hi h.size) hn).trans (h.block i hi hn)⟩
theorem grown_refl (w : World) (row : Option Nat) : w.grownBy w row := ⟨rfl, rfl, rfl, Nat.le_refl _, fun _ _ _ => rfl⟩
theorem grown_below {a w : World} (h : Below a.heap.size a w) (row : Option Nat) : a.grownBy w row := ⟨h.os, h.tape, h.output, h.size, fun i hi _ => h.block i hi⟩
theorem grown_drewN {a w : World} {row : Option Nat} (h : a.grownBy w row) (n : Nat) : a.grownBy (w.drewN n) row := ⟨h.os, h.tape, h.output, h.size, h.block⟩
theorem grown_drew {a w : World} {row : Option Nat} (h : a.grownBy w row) : a.grownBy w.drew row := ⟨h.os, h.tape, h.output, h.size, h.block⟩
theorem grown_alloc {a w : World} {row : Option Nat} (h : a.grownBy w row) (o : Obj) : a.grownBy (w.alloc o) row :=
  ⟨h.os, h.tape, h.output, Nat.le_trans h.size (by simp), fun i hi hne => (Below.heap_alloc w o i (Nat.lt_of_lt_of_le hi h.size)).trans (h.block i hi hne)⟩
theorem grown_set {a w : World} {g : Nat} (h : a.grownBy w (some g)) {p : Addr} (hp : p.block = g ∨ a.heap.size ≤ p.block) (u : Value) : a.grownBy (w.setCell p u) (some g) :=
  ⟨h.os, h.tape, h.output, by simpa [World.setCell] using h.size, fun i hi hne => (Below.heap_setCell w p u i (by
    rintro rfl
    rcases hp with hp | hp
    · exact hne (by rw [hp])
    · omega)).trans (h.block i hi hne)⟩
theorem below_drewN {B : Nat} {a w : World} (h : Below B a w) (n : Nat) : Below B a (w.drewN n) := ⟨h.os, h.tape, h.output, h.size, h.block⟩
theorem rowIs_drewN {w : World} {b : Nat} {t : TypeId} {n : Nat} {f : Nat → Value} (h : w.rowIs b t n f) (k : Nat) : (w.drewN k).rowIs b t n f := h
theorem rowIs_below {w w' : World} {b : Nat} {t : TypeId} {n : Nat} {f : Nat → Value} {B : Nat} (h : w.rowIs b t n f) (hb : Below B w w') (hB : b < B) : w'.rowIs b t n f := h.of_block (hb.block b hB)

theorem rowIs_heap {w w' : World} {b : Nat} {t : TypeId} {n : Nat} {f : Nat → Value} (h : w.rowIs b t n f) (e : w'.heap = w.heap) : w'.rowIs b t n f := h.of_block (by rw [e])
theorem below_heap {B : Nat} {a w w' : World} (h : Below B a w) (e : w'.heap = w.heap) (h1 : w'.os = w.os) (h2 : w'.tape = w.tape) (h3 : w'.output = w.output) : Below B a w' :=
  ⟨h1.trans h.os, h2.trans h.tape, h3.trans h.output, by rw [e]; exact h.size, fun k hk => by rw [e]; exact h.block k hk⟩
/-- The world under a new name, of which only what it holds is kept. -/
theorem name_world {P : Program} {c : Code} {Q : Exit → Act → World → Prop} {a : Act} {W : World} (h : ∀ w5 : World, w5.heap = W.heap → w5.os = W.os → w5.tape = W.tape → w5.output = W.output → Code.wp P c Q a w5) : Code.wp P c Q a W := h W rfl rfl rfl rfl
end Go.Proofs.Ytbjlmodabiadfaa
namespace Go.Proofs.Ytbjlmodabiadfaa
open Go.RowKit

/-- w' is w with more blocks; of the old ones only those of S have turned. -/
structure Grew (S : Nat → Prop) (w w' : World) : Prop where
  os : w'.os = w.os
  tape : w'.tape = w.tape
  output : w'.output = w.output
  size : w.heap.size ≤ w'.heap.size
  block : ∀ k, k < w.heap.size → ¬ S k → w'.heap[k]? = w.heap[k]?

namespace Grew
variable {S T : Nat → Prop} {w w' w'' : World}
theorem refl (S : Nat → Prop) (w : World) : Grew S w w := ⟨rfl, rfl, rfl, Nat.le_refl _, fun _ _ _ => rfl⟩
theorem trans (h : Grew S w w') (k : Grew S w' w'') : Grew S w w'' :=
  ⟨k.os.trans h.os, k.tape.trans h.tape, k.output.trans h.output, Nat.le_trans h.size k.size, fun i hi hn => (k.block i (Nat.lt_of_lt_of_le hi h.size) hn).trans (h.block i hi hn)⟩
theorem mono (h : Grew S w w') (hs : ∀ k, k < w.heap.size → S k → T k) : Grew T w w' := ⟨h.os, h.tape, h.output, h.size, fun k hk hn => h.block k hk (fun hh => hn (hs k hk hh))⟩
theorem drew (h : Grew S w w') : Grew S w w'.drew := ⟨h.os, h.tape, h.output, h.size, h.block⟩
theorem drewN (h : Grew S w w') (n : Nat) : Grew S w (w'.drewN n) := ⟨h.os, h.tape, h.output, h.size, h.block⟩
theorem alloc (h : Grew S w w') (o : Obj) : Grew S w (w'.alloc o) :=
  ⟨h.os, h.tape, h.output, Nat.le_trans h.size (by simp), fun i hi hne => (Below.heap_alloc w' o i (Nat.lt_of_lt_of_le hi h.size)).trans (h.block i hi hne)⟩
theorem set (h : Grew S w w') {p : Addr} (hp : S p.block ∨ w.heap.size ≤ p.block) (u : Value) : Grew S w (w'.setCell p u) :=
  ⟨h.os, h.tape, h.output, by simpa [World.setCell] using h.size, fun i hi hne => (Below.heap_setCell w' p u i (by
    rintro rfl
    rcases hp with hp | hp
    · exact hne hp
    · omega)).trans (h.block i hi hne)⟩
theorem of_below {B : Nat} (h : Below B w w') (hB : ∀ k, k < w.heap.size → B ≤ k → S k) : Grew S w w' :=
  ⟨h.os, h.tape, h.output, h.size, fun k hk hn => h.block k (by
    rcases Nat.lt_or_ge k B with h' | h'
    · exact h'
    · exact absurd (hB k hk h') hn)⟩
theorem of_new (h : Below w.heap.size w w') : Grew S w w' := of_below h fun k hk h' => by omega
theorem of_grown {row : Option Nat} (h : w.grownBy w' row) (hr : ∀ k, row = some k → k < w.heap.size → S k) : Grew S w w' :=
  ⟨h.os, h.tape, h.output, h.size, fun k hk hn => h.block k hk (fun e => hn (hr k e.symm hk))⟩
theorem of_only (h : Only S w w') : Grew S w w' := ⟨h.os, h.tape, h.output, Nat.le_of_eq h.size.symm, fun k _ hn => h.block k hn⟩
theorem below (h : Grew S w w') {B : Nat} (hB : B ≤ w.heap.size) (hs : ∀ k, k < w.heap.size → S k → B ≤ k) : Below B w w' :=
  ⟨h.os, h.tape, h.output, h.size, fun k hk => h.block k (by omega) (fun hh => by have := hs k (by omega) hh; omega)⟩
theorem cell (h : Grew S w w') {a : Addr} (ha : a.block < w.heap.size) (hn : ¬ S a.block) : w'.cell? a = w.cell? a := World.cell?_of_block (h.block _ ha hn)
theorem frozen (h : Grew S w w') {a : Addr} (ha : a.block < w.heap.size) (hn : ¬ S a.block) : w'.frozen? a = w.frozen? a := World.frozen?_of_block (h.block _ ha hn)
end Grew
section
variable {S : Nat → Prop} {w w' : World} {base B size n cap : Nat} {A : Option Addr} {xs : List Value}
theorem Row.grew (h : Row w base size A n cap xs) (hg : Grew S w w') (hs : ∀ ad, A = some ad → ¬ S ad.block) : Row w' base size A n cap xs :=
  h.of_block fun ad e => hg.block ad.block (h.lt ad e).2 (hs ad e)
theorem Blk.grew {g : Nat} {t : TypeId} {cs : Array Value} (h : Blk w g t cs) (hg : Grew S w w') (hs : ¬ S g) : Blk w' g t cs := (hg.block g h.lt hs).trans h
theorem Reads.grew (h : Reads w B size A n xs) (hB : B ≤ w.heap.size) (hg : Grew S w w') (hs : ∀ k, k < B → ¬ S k) : Reads w' B size A n xs :=
  h.keep fun p hp => World.cell?_of_block (hg.block _ (by omega) (hs _ hp))
end

/-- Behind an append onto a row of the call's own. -/
theorem below_append {w wr w2 : World} {B size n c : Nat} {o : Obj} {A : Option Addr} {xs : List Value} (hb : Below B w wr) (hB : B ≤ wr.heap.size) (hrow : Row wr B size A n c xs) (hg : (wr.alloc o).grownBy w2 (A.map (·.block))) : Below B w w2 :=
  (hb.alloc hB o).trans (Grew.below (S := fun k => B ≤ k) (Grew.of_grown hg fun k hk _ => hrow.blocks k hk) (by simp; omega) fun _ _ h => h)
theorem below_append0 {w wr w2 : World} {B size n c : Nat} {A : Option Addr} {xs : List Value} (hb : Below B w wr) (hB : B ≤ wr.heap.size) (hrow : Row wr B size A n c xs) (hg : wr.grownBy w2 (A.map (·.block))) : Below B w w2 :=
  hb.trans (Grew.below (S := fun k => B ≤ k) (Grew.of_grown hg fun k hk _ => hrow.blocks k hk) hB fun _ _ h => h)

/-! ### parts -/
/-- The value is a slice of these bytes; they stand in a block of R. -/
def Part (w : World) (R : Nat → Prop) (v : Value) (l : List UInt8) : Prop :=
  ∃ A n c, v = .slice A n c ∧ l.length = n ∧ n ≤ c ∧ n ≤ 140737488351232 ∧ (0 < n → ∃ b o, A = some ⟨b, o, none⟩ ∧ R b ∧ ∀ j u, (bv l)[j]? = some u → w.cell? ⟨b, o + j, none⟩ = some u)
/-- So many slices of bytes in a row, all in blocks of R. -/
def Parts (w : World) (R : Nat → Prop) (A : Option Addr) (L : List (List UInt8)) : Prop :=
  0 < L.length → ∃ b o, A = some ⟨b, o, none⟩ ∧ R b ∧ ∀ i (h : i < L.length), ∃ v, w.cell? ⟨b, o + i, none⟩ = some v ∧ Part w R v L[i]
section
variable {w w' : World} {R R' : Nat → Prop} {A : Option Addr} {v : Value} {l : List UInt8} {L : List (List UInt8)}
theorem Part.keep (h : Part w R v l) (hk : ∀ k, R k → w'.heap[k]? = w.heap[k]?) : Part w' R v l := by
  obtain ⟨A, n, c, e, h1, h2, h3, h4⟩ := h
  refine ⟨A, n, c, e, h1, h2, h3, fun hn => ?_⟩
  obtain ⟨b, o, e2, hR, hc⟩ := h4 hn
  exact ⟨b, o, e2, hR, fun j u hu => (World.cell?_of_block (a := ⟨b, o + j, none⟩) (hk b hR)).trans (hc j u hu)⟩
theorem Part.mono (h : Part w R v l) (hk : ∀ k, R k → R' k) : Part w R' v l := by
  obtain ⟨A, n, c, e, h1, h2, h3, h4⟩ := h
  refine ⟨A, n, c, e, h1, h2, h3, fun hn => ?_⟩
  obtain ⟨b, o, e2, hR, hc⟩ := h4 hn
  exact ⟨b, o, e2, hk b hR, hc⟩
theorem Part.reads (h : Part w R v l) {B : Nat} (hB : ∀ k, R k → k < B) : ∃ A n c, v = .slice A n c ∧ l.length = n ∧ n ≤ c ∧ n ≤ 140737488351232 ∧ Reads w B 1 A n (bv l) := by
  obtain ⟨A, n, c, e, h1, h2, h3, h4⟩ := h
  refine ⟨A, n, c, e, h1, h2, h3, by rw [length_bv]; omega, fun hn => ?_⟩
  obtain ⟨b, o, e2, hR, hc⟩ := h4 hn
  exact ⟨b, o, e2, hB b hR, hc⟩
theorem Part.its {n c : Nat} (h : Part w R (.slice A n c) l) {B : Nat} (hB : ∀ k, R k → k < B) : l.length = n ∧ n ≤ c ∧ n ≤ 140737488351232 ∧ Reads w B 1 A n (bv l) := by
  obtain ⟨A', n', c', e, h1, h2, h3, h4⟩ := h.reads hB
  injection e with e1 e2 e3
  subst e1 e2 e3
  exact ⟨h1, h2, h3, h4⟩
theorem Part.of_reads {B n c : Nat} (h : Reads w B 1 A n (bv l)) (hnc : n ≤ c) (hc : n ≤ 140737488351232) (hR : ∀ k, k < B → R k) : Part w R (.slice A n c) l := by
  refine ⟨A, n, c, rfl, by have := h.1; rw [length_bv] at this; omega, hnc, hc, fun hn => ?_⟩
  obtain ⟨b, o, e, hb, hcell⟩ := h.2 hn
  exact ⟨b, o, e, hR b hb, hcell⟩
theorem Part.of_row {base n c : Nat} (h : Row w base 1 A n c (bv l)) (hc : n ≤ 140737488351232) (hR : ∀ ad, A = some ad → R ad.block) : Part w R (.slice A n c) l := by
  refine ⟨A, n, c, rfl, by have := h.1; rw [length_bv] at this; omega, h.2.1, hc, fun hn => ?_⟩
  obtain ⟨b, o, e, hb, hcell⟩ := h.reads.2 hn
  exact ⟨b, o, e, hR _ e, hcell⟩
theorem Parts.keep (h : Parts w R A L) (hk : ∀ k, R k → w'.heap[k]? = w.heap[k]?) : Parts w' R A L := fun hn => by
  obtain ⟨b, o, e, hR, hc⟩ := h hn
  refine ⟨b, o, e, hR, fun i hi => ?_⟩
  obtain ⟨v, hv, hp⟩ := hc i hi
  exact ⟨v, (World.cell?_of_block (a := ⟨b, o + i, none⟩) (hk b hR)).trans hv, hp.keep hk⟩
theorem Parts.mono (h : Parts w R A L) (hk : ∀ k, R k → R' k) : Parts w R' A L := fun hn => by
  obtain ⟨b, o, e, hR, hc⟩ := h hn
  refine ⟨b, o, e, hk b hR, fun i hi => ?_⟩
  obtain ⟨v, hv, hp⟩ := hc i hi
  exact ⟨v, hv, hp.mono hk⟩
theorem Parts.grew {S : Nat → Prop} (h : Parts w R A L) (hg : Grew S w w') (hk : ∀ k, R k → k < w.heap.size ∧ ¬ S k) : Parts w' R A L := h.keep fun k hR => hg.block k (hk k hR).1 (hk k hR).2
theorem Part.grew {S : Nat → Prop} (h : Part w R v l) (hg : Grew S w w') (hk : ∀ k, R k → k < w.heap.size ∧ ¬ S k) : Part w' R v l := h.keep fun k hR => hg.block k (hk k hR).1 (hk k hR).2
theorem Parts.nil_ (w : World) (R : Nat → Prop) (A : Option Addr) : Parts w R A [] := fun h => absurd h (by simp)
/-- Parts listed in a new block. -/
theorem Parts.lit {t : TypeId} {cs : Array Value} (h : ∀ i (hi : i < L.length), ∃ v, cs[i]? = some v ∧ Part w R v L[i]) (hR : ∀ k, R k → k < w.heap.size) :
    Parts (w.alloc (.cells cs t)) (fun k => R k ∨ k = w.heap.size) (some ⟨w.heap.size, 0, none⟩) L := fun _ => by
  refine ⟨_, 0, rfl, .inr rfl, fun i hi => ?_⟩
  obtain ⟨v, hv, hp⟩ := h i hi
  refine ⟨v, by rw [Nat.zero_add, cell?_new]; exact hv, (hp.keep fun k hk => Below.heap_alloc w _ k (hR k hk)).mono fun k hk => .inl hk⟩
theorem Parts.one {t : TypeId} (h : Part w R v l) (hR : ∀ k, R k → k < w.heap.size) : Parts (w.alloc (.cells #[v] t)) (fun k => R k ∨ k = w.heap.size) (some ⟨w.heap.size, 0, none⟩) [l] :=
  Parts.lit (fun i hi => by
    have : i = 0 := by simpa using hi
    subst this
    exact ⟨v, rfl, h⟩) hR
theorem Parts.two {t : TypeId} {v2 : Value} {l2 : List UInt8} (h : Part w R v l) (h2 : Part w R v2 l2) (hR : ∀ k, R k → k < w.heap.size) : Parts (w.alloc (.cells #[v, v2] t)) (fun k => R k ∨ k = w.heap.size) (some ⟨w.heap.size, 0, none⟩) [l, l2] :=
  Parts.lit (fun i hi => by
    match i, hi with
    | 0, _ => exact ⟨v, rfl, h⟩
    | 1, _ => exact ⟨v2, rfl, h2⟩
    | i + 2, hi => simp at hi; omega) hR
theorem Parts.three {t : TypeId} {v2 v3 : Value} {l2 l3 : List UInt8} (h : Part w R v l) (h2 : Part w R v2 l2) (h3 : Part w R v3 l3) (hR : ∀ k, R k → k < w.heap.size) : Parts (w.alloc (.cells #[v, v2, v3] t)) (fun k => R k ∨ k = w.heap.size) (some ⟨w.heap.size, 0, none⟩) [l, l2, l3] :=
  Parts.lit (fun i hi => by
    match i, hi with
    | 0, _ => exact ⟨v, rfl, h⟩
    | 1, _ => exact ⟨v2, rfl, h2⟩
    | 2, _ => exact ⟨v3, rfl, h3⟩
    | i + 3, hi => simp at hi; omega) hR
end
end Go.Proofs.Ytbjlmodabiadfaa
namespace Go.Proofs.Ytbjlmodabiadfaa
open Go.RowKit

theorem byte_info : (Try.prog.info? 5).map (fun i => (i.zero, i.size, i.bytes)) = some (some (.int .u8 0), 1, 1) := by kernel_rfl
theorem byte_size : (Try.prog.info? 5).map (·.size) = some 1 := by kernel_rfl
theorem made_row (w : World) (z : Value) (t : TypeId) (n k : Nat) (hk : n ≤ k) (hm : k ≤ maxLen) : Row (w.alloc (.cells (madeCells #[z] k) t)) w.heap.size 1 (some ⟨w.heap.size, 0, none⟩) n k (List.replicate n z) := by
  refine ⟨by simp, hk, hm, (fun e => by cases e), fun ad e => ?_⟩
  simp only [Option.some.injEq] at e
  subst e
  refine ⟨_, 0, rfl, Nat.le_refl _, by simp, fun j hj => ?_, fun j u hu => ?_⟩
  · rw [Nat.zero_add, cell?_new, frozen?_new]
    exact ⟨by simp [madeCells]; omega, rfl⟩
  · rw [Nat.zero_add, cell?_new]
    obtain ⟨hj, hv⟩ := List.getElem?_eq_some_iff.1 hu
    simp only [List.length_replicate] at hj
    simp [madeCells, Nat.mod_one, show j < k by omega] at hv ⊢
    exact hv

set_option maxRecDepth 100000 in
set_option maxHeartbeats 1000000 in
theorem Lent_any (A : Option Addr) (n c B : Nat) (l : List UInt8) (w : World) (hr : Reads w B 1 A n (bv l)) (hB : B ≤ w.heap.size) (hn : n ≤ 140737488351232) :
    Calls Try.prog 16 #[.slice A n c] w fun e w' => e = .returned (.slice (some ⟨w.heap.size, 0, none⟩) n (n + 1)) ∧ Row w' w.heap.size 1 (some ⟨w.heap.size, 0, none⟩) (n + 1) (n + 1) (bv (l ++ [77])) ∧ Below w.heap.size w w' := by
  obtain ⟨i0, hi, hz0, hz1, hz2⟩ := info_parts byte_info
  have hmk := fun W => run_make (P := Try.prog) W 22 5 i0 (.int .u8 0) Try.underlying22 hi hz0 .i64 .i64 n ((n : Int) + 1) (by omega) (by omega) (by rw [hz2]; omega) (by omega)
  rw [hz1, show ((n : Int) + 1).toNat = n + 1 by omega, show ((n : Int)).toNat = n by omega, Nat.mul_one] at hmk
  have hll : l.length = n := by have := hr.1; rw [length_bv] at this; omega
  have hrow0 := made_row w (.int .u8 0) 5 n (n + 1) (by omega) (by unfold maxLen; omega)
  have hr0 := hr.alloc hB (.cells (madeCells #[.int .u8 0] (n + 1)) 5)
  have HLL := Lib.hid hll; clear hll
  go_enter Try.func16, Try.ntmps16
  go_wp2_with (with_reducible refine wpList_copy_any rfl (.tmp 10) (.tmp 11) _ _ rfl Try.underlying22 byte_size rfl hrow0 rfl hr0 (bv_one l) ?_; intro w2 hrow2 honly2; obtain ⟨u0, hc0⟩ := Option.isSome_iff_exists.1 (hrow2.at_.2.2.1 n (by omega)).1; have hf0 := (hrow2.at_.2.2.1 n (by omega)).2; rw [Nat.zero_add] at hc0 hf0)
  go_ret
  refine ⟨rfl, ?_, ?_⟩
  · have h1 := hrow2.ext1 (by omega) (.int .u8 77)
    rw [Nat.zero_add] at h1
    have e : bv (l ++ [77]) = (bv l).take (Nat.min n n) ++ (List.replicate n (Value.int .u8 0)).drop (Nat.min n n) ++ [Value.int .u8 77] := by
      rw [show Nat.min n n = n from Nat.min_self n, List.take_of_length_le (by rw [length_bv, HLL.out]; omega), List.drop_of_length_le (by simp), List.append_nil, bv_append]
      rfl
    rw [e]
    exact h1
  · exact ((Below.refl _ _).alloc (Nat.le_refl _) _).trans ((honly2.below (B := w.heap.size) (fun k hk => by omega)).setCell (Nat.le_refl _) _)

set_option maxRecDepth 100000 in
set_option maxHeartbeats 1000000 in
theorem Kept_yes (A : Option Addr) (n c B B' g : Nat) (l : List UInt8) (w : World) (hr : Reads w B 1 (some ⟨g, 0, none⟩) (n + 1) (bv (l ++ [77]))) (hr2 : Reads w B' 1 A n (bv l)) (hn : n ≤ 140737488351232) :
    Calls Try.prog 19 #[.slice (some ⟨g, 0, none⟩) n (n + 1), .slice A n c] w fun e w' => e = .returned (.bool true) ∧ w = w' := by
  have hll : l.length = n := by have := hr2.1; rw [length_bv] at this; omega
  have hr1 := hr.take (k := n) (by omega)
  rw [Nat.mul_one, bv_append, List.take_append_of_le_length (by rw [length_bv]; omega), List.take_of_length_le (by rw [length_bv]; omega)] at hr1
  have hcv1 := run_conv_bytes (P := Try.prog) Try.underlying22 Try.underlying5 Try.underlying9 (cap := n + 1) hr1
  have hcv2 := run_conv_bytes (P := Try.prog) Try.underlying22 Try.underlying5 Try.underlying9 (cap := c) hr2
  obtain ⟨b, o, e, _, hc⟩ := hr.2 (by omega)
  simp only [Option.some.injEq, Addr.mk.injEq, and_true] at e
  obtain ⟨rfl, rfl⟩ := e
  have hc0 := hc n (.int .u8 77) (by rw [bv_append, List.getElem?_append_right (by rw [length_bv]; omega), length_bv, hll, Nat.sub_self]; rfl)
  rw [Nat.zero_add] at hc0
  clear hc hll hr hr2 hr1
  go_enter Try.func19, Try.ntmps19
  go_wp2
  go_ret
  exact ⟨rfl, rfl⟩
end Go.Proofs.Ytbjlmodabiadfaa
namespace Go.Proofs.Ytbjlmodabiadfaa
open Go.RowKit

/-- The call hands back a new row that reads l; nothing old has turned. -/
def RowOut (l : List UInt8) (w : World) (e : Ending) (w' : World) : Prop :=
  ∃ A c, e = .returned (.slice A l.length c) ∧ Row w' w.heap.size 1 A l.length c (bv l) ∧ Below w.heap.size w w'

theorem reads_none {w : World} {B size n : Nat} {xs : List Value} (h : Reads w B size none n xs) : n = 0 := by
  rcases Nat.eq_zero_or_pos n with h0 | h0
  · exact h0
  · obtain ⟨_, _, e, _⟩ := h.2 h0; cases e

set_option maxHeartbeats 1000000 in
theorem sClone_any (A : Option Addr) (n c B : Nat) (l : List UInt8) (w : World) (hr : Reads w B 1 A n (bv l)) (hB : B ≤ w.heap.size) (hn : n ≤ 140737488355328) :
    Calls Try.prog 67 #[.slice A n c] w fun e w' => RowOut l w e w' := by
  have hll : l.length = n := by have := hr.1; rw [length_bv] at this; omega
  have heq := fun W => Lib.run_eql_slice_nil (P := Try.prog) W 22 5 A n c 0 0 Try.underlying22
  cases A with
  | none =>
    have h0 := reads_none hr
    subst h0
    have hl0 : l = [] := List.eq_nil_of_length_eq_zero hll
    subst hl0
    clear hll
    go_enter Try.func67, Try.ntmps67
    go_wp2
    go_ret
    exact ⟨none, 0, rfl, Row.nil_ _ _ _, Below.refl _ _⟩
  | some ad =>
    obtain ⟨i0, hi, hz0, hz1, hz2⟩ := info_parts byte_info
    have HLL := Lib.hid hll
    clear hll
    go_enter Try.func67, Try.ntmps67
    go_wp2_with (at_builtin; refine wpList_append_row rfl (.tmp 5) (.tmp 6) rfl Try.underlying22 hi hz0 hz1 hz2 rfl (by decide) rfl (Row.lit w #[] 5 (n := 0) (base := w.heap.size) (size := 1) rfl (Nat.le_refl _) (by unfold maxLen; omega)) rfl (hr.alloc hB _) (bv_one l) (by unfold maxLen; omega) (by omega) (by simp) ?_; intro A2 c2 w2 hrow2 hgr2 hat2)
    go_ret
    refine ⟨A2, c2, by rw [HLL.out]; rfl, by rw [HLL.out]; simpa using hrow2, ?_⟩
    exact ((Below.refl _ _).alloc (Nat.le_refl _) _).trans (Grew.below (S := fun k => w.heap.size ≤ k) (Grew.of_grown hgr2 (fun k hk _ => by simp at hk; omega)) (by simp) (fun k _ hk => hk))
set_option maxHeartbeats 1000000 in
theorem bClone_any (A : Option Addr) (n c B : Nat) (l : List UInt8) (w : World) (hr : Reads w B 1 A n (bv l)) (hB : B ≤ w.heap.size) (hn : n ≤ 140737488355328) :
    Calls Try.prog 46 #[.slice A n c] w fun e w' => RowOut l w e w' := by
  have hll : l.length = n := by have := hr.1; rw [length_bv] at this; omega
  have heq := fun W => Lib.run_eql_slice_nil (P := Try.prog) W 22 5 A n c 0 0 Try.underlying22
  cases A with
  | none =>
    have h0 := reads_none hr
    subst h0
    have hl0 : l = [] := List.eq_nil_of_length_eq_zero hll
    subst hl0
    clear hll
    go_enter Try.func46, Try.ntmps46
    go_wp2
    go_ret
    exact ⟨none, 0, rfl, Row.nil_ _ _ _, Below.refl _ _⟩
  | some ad =>
    obtain ⟨i0, hi, hz0, hz1, hz2⟩ := info_parts byte_info
    have HLL := Lib.hid hll
    clear hll
    go_enter Try.func46, Try.ntmps46
    go_wp2_with (at_builtin; refine wpList_append_row rfl (.tmp 5) (.tmp 6) rfl Try.underlying22 hi hz0 hz1 hz2 rfl (by decide) rfl (Row.lit w #[] 5 (n := 0) (base := w.heap.size) (size := 1) rfl (Nat.le_refl _) (by unfold maxLen; omega)) rfl (hr.alloc hB _) (bv_one l) (by unfold maxLen; omega) (by omega) (by simp) ?_; intro A2 c2 w2 hrow2 hgr2 hat2)
    go_ret
    refine ⟨A2, c2, by rw [HLL.out]; rfl, by rw [HLL.out]; simpa using hrow2, ?_⟩
    exact ((Below.refl _ _).alloc (Nat.le_refl _) _).trans (Grew.below (S := fun k => w.heap.size ≤ k) (Grew.of_grown hgr2 (fun k hk _ => by simp at hk; omega)) (by simp) (fun k _ hk => hk))

/-! ### append behind a guard -/
theorem wpList_if {P : Program} {ops : Array Oper} {rest : List Oper} {o : Oper} {a : Act} {w : World} {Q : Exit → Act → World → Prop} (hw : Region.wanted o (yielded ops a.tmps) = true)
    (h : ∀ K, (∀ a' w', wpList P ops Q rest a' w' → K a' w') → o.wp P a w K Q) : wpList P ops Q (o :: rest) a w := by
  unfold wpList
  rw [if_pos hw]
  exact .inl (h _ fun _ _ hk => hk)
theorem wpList_append_rowG {P : Program} {ops : Array Oper} {rest : List Oper} {o : Oper} {a : Act} {Q : Exit → Act → World → Prop} (hgd : Region.wanted o (yielded ops a.tmps) = true) (s x : Operand) {t : TypeId}
    (ho : o.op = .call { callee := .builtin .append, args := #[s, x], argTypes := #[t, t] })
    {e : TypeId} {i : TypeInfo} {z : Value} {size bytes : Nat} (ht : P.underlying t = some (.slice e)) (hi : P.info? e = some i) (hz : i.zero = some z)
    (hsize : i.size = size) (hby : i.bytes = bytes) (hzs : z.cells.size = size) (hsz : 0 < size)
    {w : World} {base n cap : Nat} {A : Option Addr} {xs : List Value} (hs : a.eval s = .slice A n cap) (hd : Row w base size A n cap xs)
    {B m c : Nat} {A2 : Option Addr} {ys : List Value} (hx : a.eval x = .slice A2 m c) (hr : Reads w B size A2 m ys) (h1 : ∀ v ∈ ys, v.oneCell' = true)
    (h63 : n + m ≤ maxLen) (hbytes : (n + m) * bytes ≤ 140737488355328) (hbase : base ≤ w.heap.size)
    (h : ∀ A' cap' w', Row w' base size A' (n + m) cap' (xs ++ ys) → w.grownBy w' (A.map (·.block)) → (A' = A ∨ ∃ ad, A' = some ad ∧ w.heap.size ≤ ad.block) → wpList P ops Q rest (a.put o.dst (.slice A' (n + m) cap')) w') :
    wpList P ops Q (o :: rest) a w :=
  wpList_if hgd fun _ hK => wp_append_row s x ho ht hi hz hsize hby hzs hsz hs hd hx hr h1 h63 hbytes hbase fun A' cap' w' h2 h3 h4 => hK _ _ (h A' cap' w' h2 h3 h4)
end Go.Proofs.Ytbjlmodabiadfaa
namespace Go.Proofs.Ytbjlmodabiadfaa
open Go.RowKit

/-- Nothing old has turned. -/
def Grows (w w' : World) : Prop := Below w.heap.size w w'
theorem grows_refl (w : World) : Grows w w := Below.refl _ _
theorem grows_trans (x y z : World) (h : Grows x y) (k : Grows y z) : Grows x z := thenB h k
theorem grows_drewN {w w' : World} (h : Grows w w') (n : Nat) : Grows w (w'.drewN n) := below_drewN h n
def eqv (c : Value) (v : Value) (_ : World) : Prop := v = c
def anyv (_ : Value) (_ : World) : Prop := True
/-- The value is a slice that reads these bytes. -/
def BytesV (l : List UInt8) (v : Value) (w : World) : Prop := ∃ A n c B, v = .slice A n c ∧ l.length = n ∧ n ≤ c ∧ B ≤ w.heap.size ∧ Reads w B 1 A n (bv l)
/-- The value lists these parts. -/
def ListV (L : List (List UInt8)) (v : Value) (w : World) : Prop := ∃ A c B, v = .slice A L.length c ∧ B ≤ w.heap.size ∧ Parts w (· < B) A L
theorem BytesV.grows {l : List UInt8} {v : Value} {w w' : World} (h : BytesV l v w) (g : Grows w w') : BytesV l v w' := by
  obtain ⟨A, n, c, B, e, hl, hc, hB, hr⟩ := h
  exact ⟨A, n, c, B, e, hl, hc, Nat.le_trans hB g.size, hr.below (g.mono hB)⟩
theorem ListV.grows {L : List (List UInt8)} {v : Value} {w w' : World} (h : ListV L v w) (g : Grows w w') : ListV L v w' := by
  obtain ⟨A, c, B, e, hB, hp⟩ := h
  exact ⟨A, c, B, e, Nat.le_trans hB g.size, hp.keep fun k hk => g.block k (by omega)⟩
theorem BytesV.of_row {l : List UInt8} {w : World} {base n c : Nat} {A : Option Addr} (h : Row w base 1 A n c (bv l)) : BytesV l (.slice A n c) w :=
  ⟨A, n, c, _, rfl, by have := h.1; rw [length_bv] at this; omega, h.2.1, Nat.le_refl _, h.reads⟩
theorem BytesV.part {l : List UInt8} {v : Value} {w : World} (h : BytesV l v w) (hl : l.length ≤ 140737488351232) : Part w (· < w.heap.size) v l := by
  obtain ⟨A, n, c, B, rfl, he, hc, hB, hr⟩ := h
  exact Part.of_reads hr hc (by omega) fun k hk => by omega
/-- 'string(b)'. -/
theorem BytesV.conv {P : Program} {src dst e : TypeId} {l : List UInt8} {v : Value} {w : World} (h : BytesV l v w) (hs : P.underlying src = some (.slice e)) (he : P.underlying e = some (.int .u8)) (hd : P.underlying dst = some .string) :
    (convert src dst v).run P w = .ok (.string ⟨l.toArray⟩) w := by
  obtain ⟨A, n, c, B, rfl, _, _, _, hr⟩ := h
  exact run_conv_bytes hs he hd hr
theorem ListV.one {l : List UInt8} {v : Value} {w : World} {t : TypeId} (h : BytesV l v w) (hl : l.length ≤ 140737488351232) : ListV [l] (.slice (some ⟨w.heap.size, 0, none⟩) 1 1) (w.alloc (.cells #[v] t)) :=
  ⟨_, 1, w.heap.size + 1, rfl, by simp, (Parts.one (h.part hl) fun k hk => hk).mono fun k hk => by rcases hk with hk | hk <;> omega⟩
theorem ListV.two {l l2 : List UInt8} {v v2 : Value} {w : World} {t : TypeId} (h : BytesV l v w) (h2 : BytesV l2 v2 w) (hl : l.length ≤ 140737488351232) (hl2 : l2.length ≤ 140737488351232) : ListV [l, l2] (.slice (some ⟨w.heap.size, 0, none⟩) 2 2) (w.alloc (.cells #[v, v2] t)) :=
  ⟨_, 2, w.heap.size + 1, rfl, by simp, (Parts.two (h.part hl) (h2.part hl2) fun k hk => hk).mono fun k hk => by rcases hk with hk | hk <;> omega⟩
theorem ListV.three {l l2 l3 : List UInt8} {v v2 v3 : Value} {w : World} {t : TypeId} (h : BytesV l v w) (h2 : BytesV l2 v2 w) (h3 : BytesV l3 v3 w) (hl : l.length ≤ 140737488351232) (hl2 : l2.length ≤ 140737488351232) (hl3 : l3.length ≤ 140737488351232) :
    ListV [l, l2, l3] (.slice (some ⟨w.heap.size, 0, none⟩) 3 3) (w.alloc (.cells #[v, v2, v3] t)) :=
  ⟨_, 3, w.heap.size + 1, rfl, by simp, (Parts.three (h.part hl) (h2.part hl2) (h3.part hl3) fun k hk => hk).mono fun k hk => by rcases hk with hk | hk <;> omega⟩
theorem BytesV.drew {l : List UInt8} {v : Value} {w : World} (h : BytesV l v w) : BytesV l v w.drew := h.grows ((Below.refl _ _).drew)
theorem BytesV.cut {l : List UInt8} {A : Option Addr} {n c k : Nat} {w : World} (h : BytesV l (.slice A n c) w) (hk : k ≤ n) : BytesV (l.drop k) (.slice (if c = k then A else A.map (·.add k)) (n - k) (c - k)) w := by
  obtain ⟨A', n', c', B, e, hl, hc, hB, hr⟩ := h
  injection e with e1 e2 e3
  subst e1 e2 e3
  have := hr.cut hk hc
  rw [Nat.mul_one, ← bv_drop] at this
  exact ⟨_, _, _, B, rfl, by simp; omega, by omega, hB, this⟩
theorem BytesV.head {l : List UInt8} {A : Option Addr} {n c k : Nat} {w : World} (h : BytesV l (.slice A n c) w) (hk : k ≤ n) : BytesV (l.take k) (.slice A k c) w := by
  obtain ⟨A', n', c', B, e, hl, hc, hB, hr⟩ := h
  injection e with e1 e2 e3
  subst e1 e2 e3
  have := hr.take hk
  rw [Nat.mul_one, ← bv_take] at this
  exact ⟨_, _, _, B, rfl, by simp; omega, by omega, hB, this⟩
theorem BytesV.form {l : List UInt8} {v : Value} {w : World} (h : BytesV l v w) : ∃ A n c, v = .slice A n c := by
  obtain ⟨A, n, c, _, e, _⟩ := h
  exact ⟨A, n, c, e⟩
theorem BytesV.nil_ (w : World) : BytesV [] (.slice none 0 0) w := ⟨none, 0, 0, 0, rfl, rfl, Nat.le_refl _, Nat.zero_le _, Reads.nil_⟩
/-- A list of facts, by number. -/
def nthF (Fs : List (Value → World → Prop)) (j : Nat) : Value → World → Prop := Fs.getD j anyv
def Stable (f : Value → World → Prop) : Prop := ∀ v w w', f v w → Grows w w' → f v w'
theorem st_nil : ∀ f ∈ ([] : List (Value → World → Prop)), Stable f := fun _ h => by cases h
theorem st_cons {f : Value → World → Prop} {Fs : List (Value → World → Prop)} (h : Stable f) (k : ∀ g ∈ Fs, Stable g) : ∀ g ∈ f :: Fs, Stable g := fun g hg => by
  rcases List.mem_cons.1 hg with rfl | hg
  · exact h
  · exact k g hg
theorem nth_stable {Fs : List (Value → World → Prop)} (h : ∀ f ∈ Fs, Stable f) : ∀ j v w w', nthF Fs j v w → Grows w w' → nthF Fs j v w' := fun j v w w' hf hg => by
  unfold nthF at *
  rw [List.getD_eq_getElem?_getD] at *
  cases e : Fs[j]? with
  | none => trivial
  | some f =>
    rw [e] at hf
    exact h f (List.mem_of_getElem? e) v w w' hf hg
theorem st_eqv (c : Value) : Stable (eqv c) := fun _ _ _ h _ => h
theorem st_any : Stable anyv := fun _ _ _ h _ => h
theorem st_bytes (l : List UInt8) : Stable (BytesV l) := fun _ _ _ h g => h.grows g
theorem st_list (L : List (List UInt8)) : Stable (ListV L) := fun _ _ _ h g => h.grows g
end Go.Proofs.Ytbjlmodabiadfaa
namespace Go.Proofs.Ytbjlmodabiadfaa.Once
open Go.RowKit

theorem disable (w : World) : (callFunc 87 #[]).run Try.prog w = .ok (.value (.tuple #[])) w := run_call_mark0 Try.func87 (by kernel_rfl) (by kernel_rfl) (by kernel_rfl) .disable (by kernel_rfl) w
theorem enable (w : World) : (callFunc 89 #[]).run Try.prog w = .ok (.value (.tuple #[])) w := run_call_mark0 Try.func89 (by kernel_rfl) (by kernel_rfl) (by kernel_rfl) .enable (by kernel_rfl) w
theorem acquire (a : Addr) (w : World) : (callFunc 90 #[.pointer (some a)]).run Try.prog w = .ok (.value (.tuple #[])) w := run_call_marked Try.func90 (by kernel_rfl) (by kernel_rfl) (by kernel_rfl) .acquire (by kernel_rfl) a w
theorem releaseMerge (a : Addr) (w : World) : (callFunc 92 #[.pointer (some a)]).run Try.prog w = .ok (.value (.tuple #[])) w := run_call_marked Try.func92 (by kernel_rfl) (by kernel_rfl) (by kernel_rfl) .releaseMerge (by kernel_rfl) a w

theorem store_deferred (a : Addr) (x : Value) (u : FrameMode) (w : World) (hc : w.cell? a = some x) (hz : w.frozen? a = false) :
    CallsD Try.prog 78 #[.pointer (some a), .bool true] u w fun e u' w' => u' = u ∧ (e = .returned (.tuple #[]) ∧ w' = w.drew.setCell a (.int .u32 1)) := by
  have hc' : w.drew.cell? a = some x := by go_simp
  have hz' : w.drew.frozen? a = false := by go_simp
  have hst := run_call_store (P := Try.prog) Try.func84 (by kernel_rfl) (by kernel_rfl) (by kernel_rfl) (by kernel_rfl) (k := .u32) (y := 1) hc' hz'
  go_enter_d Try.func78, Try.ntmps78
  go_wp2
  go_region_calls
  all_goals (go_end0; exact ⟨rfl, rfl⟩)

set_option maxRecDepth 100000 in
set_option maxHeartbeats 400000 in
theorem unlock_deferred (a : Addr) (u : FrameMode) (w : World) (hc : w.cell? a = some (.int .i32 1)) (hz : w.frozen? a = false) :
    CallsD Try.prog 77 #[.pointer (some a)] u w fun e u' w' => u' = u ∧ (e = .returned (.tuple #[]) ∧ w' = w.setCell a (.int .i32 0)) := by
  have hd := disable
  have he := enable
  have hr := releaseMerge
  have hadd := run_call_add (P := Try.prog) Try.func93 (by kernel_rfl) (by kernel_rfl) (by kernel_rfl) .i32 (by kernel_rfl) (y := -1) (s := 0) hc hz (by simp [go_sem]; rfl)
  have hcv := run_convert_to_unsafe (P := Try.prog) (src := 134) (dst := 141) Try.underlying134 Try.underlying141 (by kernel_rfl) hc
  have hcv2 := run_convert_to_unsafe (P := Try.prog) (src := 137) (dst := 141) Try.underlying137 Try.underlying141 (by kernel_rfl) hc
  go_enter_d Try.func77, Try.ntmps77
  go_wp2
  go_end0
  go_wp2
  go_end0
  exact ⟨rfl, rfl⟩

set_option maxRecDepth 100000 in
set_option maxHeartbeats 400000 in
theorem lock_free (a : Addr) (w : World) (hc : w.cell? a = some (.int .i32 0)) (hz : w.frozen? a = false) :
    Calls Try.prog 76 #[.pointer (some a)] w fun e w' => e = .returned (.tuple #[]) ∧ w' = w.setCell a (.int .i32 1) := by
  have hd := disable
  have he := enable
  have ha := acquire
  have hcas := run_call_cas_hit (P := Try.prog) Try.func88 (by kernel_rfl) (by kernel_rfl) (by kernel_rfl) .i32 (by kernel_rfl) (y := 1) hc hz
  have hc' : (w.setCell a (.int .i32 1)).cell? a = some (.int .i32 1) := World.cell?_setCell_same w a _ hc
  have hcv := run_convert_to_unsafe (P := Try.prog) (src := 134) (dst := 141) Try.underlying134 Try.underlying141 (by kernel_rfl) hc'
  have hcv2 := run_convert_to_unsafe (P := Try.prog) (src := 137) (dst := 141) Try.underlying137 Try.underlying141 (by kernel_rfl) hc'
  go_enter Try.func76, Try.ntmps76
  go_wp2
  first | go_end0 | (simp only [Exit.inBlock, Exit.then]; refine bodyPost_ret (results_none rfl _ _ _) rfl ?_) | refine bodyPost_ret (results_none rfl _ _ _) rfl ?_
  go_wp2
  go_end0
  exact ⟨rfl, rfl⟩

theorem load_any (a : Addr) (d : Int) (w : World) (hc : w.cell? a = some (.int .u32 d)) :
    Calls Try.prog 62 #[.pointer (some a)] w fun e w' => e = .returned (.bool (d != 0)) ∧ w = w' := by
  have hl := run_call_load (P := Try.prog) Try.func75 (by kernel_rfl) (by kernel_rfl) (by kernel_rfl) .u32 (by kernel_rfl) hc
  go_enter Try.func62, Try.ntmps62
  go_wp2
  go_ret
  exact ⟨rfl, rfl⟩

/-- What the function handed to Do leaves: what is asked of it, and the Once's own cells. -/
def Left (b off : Nat) (Φ : World → Prop) (e : Ending) (w2 : World) : Prop :=
  e = .returned (.tuple #[]) ∧ Φ w2 ∧ w2.cell? ⟨b, off, none⟩ = some (.int .u32 0) ∧ w2.cell? ⟨b, off + 1, none⟩ = some (.int .i32 1) ∧ w2.frozen? ⟨b, off, none⟩ = false ∧ w2.frozen? ⟨b, off + 1, none⟩ = false
/-- Behind Do. -/
def Did (b off : Nat) (Φ : World → Prop) (e : Ending) (w' : World) : Prop :=
  e = .returned (.tuple #[]) ∧ ∃ w2, Φ w2 ∧ w2.cell? ⟨b, off, none⟩ = some (.int .u32 0) ∧ w2.cell? ⟨b, off + 1, none⟩ = some (.int .i32 1) ∧ w' = (w2.drew.setCell ⟨b, off, none⟩ (.int .u32 1)).setCell ⟨b, off + 1, none⟩ (.int .i32 0)

set_option maxRecDepth 100000 in
set_option maxHeartbeats 1600000 in
theorem slow_any (b off : Nat) (F : Nat) (first cap : Array Value) (Φ : World → Prop) (w : World)
    (h0 : w.cell? ⟨b, off, none⟩ = some (.int .u32 0)) (h1 : w.cell? ⟨b, off + 1, none⟩ = some (.int .i32 0)) (f1 : w.frozen? ⟨b, off + 1, none⟩ = false)
    (hcf : ∀ w : World, (callFunc F (first ++ cap)).run Try.prog w = .ok (.enter F (first ++ cap)) w) (hF : Calls Try.prog F (first ++ cap) (w.setCell ⟨b, off + 1, none⟩ (.int .i32 1)) (Left b off Φ)) :
    Calls Try.prog 63 #[.pointer (some ⟨b, off, none⟩), .func (.func F) first cap] w (Did b off Φ) := by
  have h01 : (w.setCell ⟨b, off + 1, none⟩ (.int .i32 1)).cell? ⟨b, off, none⟩ = some (.int .u32 0) := (World.cell?_setCell_other _ ⟨b, off + 1, none⟩ ⟨b, off, none⟩ _ (by simp)).trans h0
  have hnot : ∀ (x : Bool) (w : World), (Op.unary .not (.bool x)).run Try.prog w = .ok (.bool (!x)) w := fun _ _ => rfl
  have HF := Lib.hid hF
  clear hF
  go_enter_defers Try.func63, Try.ntmps63
  go_wp2_with fail
  refine (lock_free ⟨b, off + 1, none⟩ _ h1 f1).mono ?_
  rintro e w' ⟨rfl, rfl⟩
  go_wp2_with fail
  refine (load_any ⟨b, off, none⟩ 0 _ h01).mono ?_
  rintro e w' ⟨rfl, rfl⟩
  go_wp2_with fail
  refine HF.out.mono ?_
  rintro e w2 ⟨rfl, hphi, c0, c1, z0, z1⟩
  have HPHI := Lib.hid hphi
  clear hphi
  go_wp2_with fail
  refine leaves_cons (f := 78) (args := #[.pointer (some ⟨b, off, none⟩), .bool true]) (by simp) (by simp [go_sem]) ?_
  refine (store_deferred ⟨b, off, none⟩ _ .returning _ c0 z0).mono ?_
  rintro e u' w'' ⟨rfl, rfl, rfl⟩
  refine leaves_cons (f := 77) (args := #[.pointer (some ⟨b, off + 1, none⟩)]) (by simp [settle]) (by simp [go_sem]) ?_
  refine (unlock_deferred ⟨b, off + 1, none⟩ _ _ ?_ (by simp [z1])).mono ?_
  · refine (World.cell?_setCell_other _ ⟨b, off, none⟩ ⟨b, off + 1, none⟩ _ (by simp)).trans ?_
    rw [World.cell?_drew]
    exact c1
  rintro e u' w'' ⟨rfl, rfl, rfl⟩
  have hend : Did b off Φ (.returned (.tuple #[])) ((w2.drew.setCell ⟨b, off, none⟩ (.int .u32 1)).setCell ⟨b, off + 1, none⟩ (.int .i32 0)) := ⟨rfl, w2, HPHI.out, c0, c1, rfl⟩
  simp [Leaves, settle, results, Try.results63, hend]

set_option maxHeartbeats 400000 in
theorem Do_first (b off : Nat) (F : Nat) (first cap : Array Value) (Φ : World → Prop) (w : World)
    (h0 : w.cell? ⟨b, off, none⟩ = some (.int .u32 0)) (h1 : w.cell? ⟨b, off + 1, none⟩ = some (.int .i32 0)) (f1 : w.frozen? ⟨b, off + 1, none⟩ = false)
    (hcf : ∀ w : World, (callFunc F (first ++ cap)).run Try.prog w = .ok (.enter F (first ++ cap)) w) (hF : Calls Try.prog F (first ++ cap) (w.setCell ⟨b, off + 1, none⟩ (.int .i32 1)) (Left b off Φ)) :
    Calls Try.prog 47 #[.pointer (some ⟨b, off, none⟩), .func (.func F) first cap] w (Did b off Φ) := by
  have hnot : ∀ (x : Bool) (w : World), (Op.unary .not (.bool x)).run Try.prog w = .ok (.bool (!x)) w := fun _ _ => rfl
  have hs := Lib.hid (slow_any b off F first cap Φ w h0 h1 f1 hcf hF)
  clear hcf hF
  go_enter Try.func47, Try.ntmps47
  go_wp2_with fail
  refine (load_any ⟨b, off, none⟩ 0 _ h0).mono ?_
  rintro e w' ⟨rfl, rfl⟩
  go_wp2_with fail
  refine hs.out.mono ?_
  rintro e w' ⟨rfl, hd⟩
  have HD := Lib.hid hd
  clear hd
  go_wp2_with fail
  go_end0
  exact ⟨rfl, HD.out⟩

set_option maxHeartbeats 400000 in
theorem Do_done (b off : Nat) (fv : Value) (w : World) (h0 : w.cell? ⟨b, off, none⟩ = some (.int .u32 1)) :
    Calls Try.prog 47 #[.pointer (some ⟨b, off, none⟩), fv] w fun e w' => e = .returned (.tuple #[]) ∧ w = w' := by
  have hnot : ∀ (x : Bool) (w : World), (Op.unary .not (.bool x)).run Try.prog w = .ok (.bool (!x)) w := fun _ _ => rfl
  go_enter Try.func47, Try.ntmps47
  go_wp2_with fail
  refine (load_any ⟨b, off, none⟩ 1 _ h0).mono ?_
  rintro e w' ⟨rfl, rfl⟩
  go_wp2_with fail
  go_end0
  exact ⟨rfl, rfl⟩
end Go.Proofs.Ytbjlmodabiadfaa.Once
namespace Go.Proofs.Ytbjlmodabiadfaa
open Go.RowKit

/-- So many strings in a row, in a block of R. -/
def Strs (w : World) (R : Nat → Prop) (A : Option Addr) (L : List ByteArray) : Prop :=
  0 < L.length → ∃ b o, A = some ⟨b, o, none⟩ ∧ R b ∧ ∀ i (h : i < L.length), w.cell? ⟨b, o + i, none⟩ = some (.string L[i])
section
variable {w w' : World} {R R' : Nat → Prop} {A : Option Addr} {L : List ByteArray}
theorem Strs.keep (h : Strs w R A L) (hk : ∀ k, R k → w'.heap[k]? = w.heap[k]?) : Strs w' R A L := fun hn => by
  obtain ⟨b, o, e, hR, hc⟩ := h hn
  exact ⟨b, o, e, hR, fun i hi => (World.cell?_of_block (a := ⟨b, o + i, none⟩) (hk b hR)).trans (hc i hi)⟩
theorem Strs.mono (h : Strs w R A L) (hk : ∀ k, R k → R' k) : Strs w R' A L := fun hn => by
  obtain ⟨b, o, e, hR, hc⟩ := h hn
  exact ⟨b, o, e, hk b hR, hc⟩
end
end Go.Proofs.Ytbjlmodabiadfaa
namespace Go.Proofs.Ytbjlmodabiadfaa
open Go.RowKit

abbrev Sl := Option Addr × Nat × Nat
def Sl.val (x : Sl) : Value := .slice x.1 x.2.1 x.2.2
/-- The blocks of some rows that have room. -/
def blocksOf (R : List Sl) (k : Nat) : Prop := ∃ x ∈ R, ∃ a : Addr, x.1 = some a ∧ 0 < x.2.2 ∧ k = a.block
/-- The first k cells of a row hold v. -/
def Full (w : World) (x : Sl) (v : Int) (k : Nat) : Prop := ∀ a, x.1 = some a → ∀ j, j < k → w.cell? ⟨a.block, a.off + j, none⟩ = some (.int .u8 v)
/-- Rows that their owner may write over. -/
structure OwnedRows (w : World) (bo : Nat) (R : List Sl) : Prop where
  cell : ∀ i x, R[i]? = some x → w.cell? ⟨bo, i, none⟩ = some x.val
  row : ∀ x ∈ R, ∃ base xs, Row w base 1 x.1 x.2.1 x.2.2 xs
  apart : ∀ (i j : Nat) x y a b, R[i]? = some x → R[j]? = some y → i ≠ j → x.1 = some a → y.1 = some b → 0 < x.2.2 → 0 < y.2.2 → a.block ≠ b.block
  outer : ¬ blocksOf R bo

theorem Full.other {w : World} {x : Sl} {v : Int} {k : Nat} (h : Full w x v k) {p : Addr} (hp : ∀ a, x.1 = some a → 0 < k → a.block ≠ p.block) (u : Value) : Full (w.setCell p u) x v k := fun a ha j hj => by
  rw [World.cell?_setCell_other w p _ u (fun e => hp a ha (by omega) (by rw [e]))]
  exact h a ha j hj
theorem Full.next {w : World} {A : Option Addr} {n c g o : Nat} {v : Int} {k : Nat} (hA : A = some ⟨g, o, none⟩) (h : Full w (A, n, c) v k) (hs : (w.cell? ⟨g, o + k, none⟩).isSome = true) : Full (w.setCell ⟨g, o + k, none⟩ (.int .u8 v)) (A, n, c) v (k + 1) := fun a ha j hj => by
  have ha' : A = some a := ha
  rw [hA] at ha'
  simp only [Option.some.injEq] at ha'
  subst ha'
  obtain ⟨z, hz⟩ := Option.isSome_iff_exists.1 hs
  by_cases e : j = k
  · subst e; exact World.cell?_setCell_same w _ _ hz
  · rw [World.cell?_setCell_other w _ _ _ (by simp only [ne_eq, Addr.mk.injEq, and_true, true_and]; omega)]
    exact h _ hA j (by omega)

set_option maxRecDepth 100000 in
set_option maxHeartbeats 4000000 in
theorem Owned_any (bo co : Nat) (R : List Sl) (w : World) (h : OwnedRows w bo R) (hn : R.length ≤ 200) :
    Calls Try.prog 20 #[.slice (some ⟨bo, 0, none⟩) R.length co] w fun e w' => e = .returned (.bool true) ∧ Only (blocksOf R) w w' := by
  go_enter Try.func20, Try.ntmps20
  go_wp2_with fail
  go_loopw [3] (fun i wr => ∃ k : Nat, k ≤ R.length ∧ i = .int .i64 k ∧ Only (blocksOf R) w wr ∧ ∀ j x, j < k → R[j]? = some x → Full wr x (j + 1) x.2.2) (fun i _ => R.length - (intOf i).toNat)
  case atStart => exact ⟨0, by omega, rfl, Only.refl _ _, fun j x hj => by omega⟩
  case round =>
    obtain ⟨i, hi, rfl, hon, hfull⟩ := hrel
    obtain ⟨wo, rfl⟩ : ∃ wo : World, wo = wr := ⟨_, rfl⟩
    by_cases hlt : i < R.length
    · obtain ⟨A, n, c, hx⟩ : ∃ A n c, R[i]? = some (A, n, c) := ⟨_, _, _, List.getElem?_eq_getElem hlt⟩
      have hcell : wo.cell? ⟨bo, i, none⟩ = some (.slice A n c) := (hon.cell h.outer).trans (h.cell i _ hx)
      obtain ⟨base, xs, hrow⟩ := h.row _ (List.mem_of_getElem? hx)
      have hnc := hrow.2.1
      have hcm := hrow.2.2.1
      unfold maxLen at hcm
      have HX := Lib.hid hx
      have HF := Lib.hid hfull
      clear hx hfull
      go_wp2_with fail
      go_quiet (fail)
      go_wp2_with fail
      rename_i nq _
      go_loopw [5] (fun kk w2 => ∃ k : Nat, k ≤ c ∧ kk = .int .i64 k ∧ Only (blocksOf R) w w2 ∧ (∀ j x, j < i → R[j]? = some x → Full w2 x (j + 1) x.2.2) ∧ Full w2 (A, n, c) (i + 1) k) (fun kk _ => c - (intOf kk).toNat)
      case atStart => exact ⟨0, by omega, rfl, hon.drewN _, fun j x hj hx => HF.out j x hj hx, fun a _ j hj => by omega⟩
      case round =>
        obtain ⟨k, hk, rfl, hon2, hprev, hfull2⟩ := hrel
        have HP := Lib.hid hprev
        have HF2 := Lib.hid hfull2
        clear hprev hfull2
        by_cases hlk : k < c
        · obtain ⟨g, o, hA⟩ : ∃ g o, A = some ⟨g, o, none⟩ := by
            cases hA : A with
            | none => have := hrow.2.2.2.1 hA; omega
            | some ad => obtain ⟨g, o, rfl, _⟩ := hrow.2.2.2.2 _ hA; exact ⟨g, o, rfl⟩
          have hrow' := hrow
          simp only [hA] at hrow'
          have hthere := (hrow'.at_.2.2.1 k (by omega)).1
          have hfz := (hrow'.at_.2.2.1 k (by omega)).2
          rw [← hon2.there] at hthere
          rw [← hon2.frozen] at hfz
          obtain ⟨u0, hc0⟩ := Option.isSome_iff_exists.1 hthere
          have hin : blocksOf R g := ⟨_, List.mem_of_getElem? HX.out, _, hA, by show 0 < c; omega, rfl⟩
          have HS := Lib.hid (hon2.setCell (p := ⟨g, o + k, none⟩) hin hthere (.int .u8 ((i : Int) + 1)))
          have HN := Lib.hid (HF2.out.next hA hthere)
          have HO := Lib.hid (show ∀ j x, j < i → R[j]? = some x → Full (wr.setCell ⟨g, o + k, none⟩ (.int .u8 ((i : Int) + 1))) x (j + 1) x.2.2 from fun j x hj hx =>
            (HP.out j x hj hx).other (p := ⟨g, o + k, none⟩) (fun a ha hpos => h.apart j i x (A, n, c) a ⟨g, o, none⟩ hx HX.out (by omega) ha hA hpos (by show 0 < c; omega)) _)
          have HA := Lib.hid hA
          subst hA
          clear hthere hin
          go_wp2_with fail
          go_roundw
          case rel => exact ⟨k + 1, by omega, by go_num, HS.out, HO.out, HN.out⟩
          case measure => simp [intOf]; omega
        · obtain rfl : k = c := by omega
          go_wp2_with fail
          go_roundw
          case rel =>
            refine ⟨i + 1, by omega, by go_num, hon2, fun j x hj hx => ?_⟩
            rcases Nat.lt_or_ge j i with h' | h'
            · exact HP.out j x h' hx
            · obtain rfl : j = i := by omega
              have e := hx.symm.trans HX.out
              simp only [Option.some.injEq] at e
              subst e
              exact HF2.out
          case measure => simp [intOf]; omega
    · obtain rfl : i = R.length := by omega
      have HF := Lib.hid hfull
      clear hfull
      go_wp2_with fail
      go_loopw [6] (fun i wr => ∃ k m : Nat, k ≤ R.length ∧ i = .int .i64 k ∧ wr = wo.drewN m) (fun i _ => R.length - (intOf i).toNat)
      case atStart => exact ⟨0, 0, by omega, rfl, rfl⟩
      case round =>
        obtain ⟨i, m, hi, rfl, rfl⟩ := hrel
        by_cases hlt : i < R.length
        · obtain ⟨A, n, c, hx⟩ : ∃ A n c, R[i]? = some (A, n, c) := ⟨_, _, _, List.getElem?_eq_getElem hlt⟩
          have hcell : wo.cell? ⟨bo, i, none⟩ = some (.slice A n c) := (hon.cell h.outer).trans (h.cell i _ hx)
          obtain ⟨base, xs, hrow⟩ := h.row _ (List.mem_of_getElem? hx)
          have hnc := hrow.2.1
          have hcm := hrow.2.2.1
          unfold maxLen at hcm
          have HX := Lib.hid hx
          clear hx
          go_wp2_with fail
          go_quiet (fail)
          go_wp2_with fail
          rename_i nq _
          go_loopw [8] (fun kk wr => ∃ k m : Nat, k ≤ c ∧ kk = .int .i64 k ∧ wr = wo.drewN m) (fun kk _ => c - (intOf kk).toNat)
          case atStart => exact ⟨0, m + nq, by omega, rfl, by simp⟩
          case round =>
            obtain ⟨k, m2, hk, rfl, rfl⟩ := hrel
            by_cases hlk : k < c
            · obtain ⟨g, o, hA⟩ : ∃ g o, A = some ⟨g, o, none⟩ := by
                cases hA : A with
                | none => have := hrow.2.2.2.1 hA; omega
                | some ad => obtain ⟨g, o, rfl, _⟩ := hrow.2.2.2.2 _ hA; exact ⟨g, o, rfl⟩
              have hc0 := HF.out i (A, n, c) hlt HX.out ⟨g, o, none⟩ hA k hlk
              subst hA
              have he : ((i : Int) + 1 != (i : Int) + 1) = false := by simp
              clear hrow
              go_wp2_with fail
              go_roundw
              case rel => exact ⟨k + 1, m2, by omega, by go_num, rfl⟩
              case measure => simp [intOf]; omega
            · obtain rfl : k = c := by omega
              go_wp2_with fail
              go_roundw
              case rel => exact ⟨i + 1, m2, by omega, by go_num, rfl⟩
              case measure => simp [intOf]; omega
        · go_wp2_with fail
          go_ret
          exact ⟨rfl, hon.drewN _⟩
end Go.Proofs.Ytbjlmodabiadfaa
namespace Go.Proofs.Ytbjlmodabiadfaa
open Go.RowKit

def Apart (A B : Option Addr) : Prop := ∀ a b, A = some a → B = some b → a.block ≠ b.block
theorem Apart.symm {A B : Option Addr} (h : Apart A B) : Apart B A := fun a b ea eb e => h b a eb ea e.symm
theorem apart_lt {A B : Option Addr} {N : Nat} (h : ∀ a, A = some a → a.block < N) (k : ∀ b, B = some b → N ≤ b.block) : Apart A B := fun a b ea eb => by
  have := h a ea
  have := k b eb
  omega
theorem owned_lit {w : World} {t : TypeId} {R : List Sl} (hr : ∀ x ∈ R, ∃ base xs, Row w base 1 x.1 x.2.1 x.2.2 xs) (ha : R.Pairwise fun x y => Apart x.1 y.1) : OwnedRows (w.alloc (.cells (R.map Sl.val).toArray t)) w.heap.size R where
  cell i x h := by
    rw [cell?_new, List.getElem?_toArray, List.getElem?_map, h]; rfl
  row x hx := by
    obtain ⟨base, xs, h⟩ := hr x hx
    exact ⟨base, xs, h.alloc _⟩
  apart i j x y a b hi hj hij ea eb _ _ := by
    obtain ⟨h1, e1⟩ := List.getElem?_eq_some_iff.1 hi
    obtain ⟨h2, e2⟩ := List.getElem?_eq_some_iff.1 hj
    have hp := List.pairwise_iff_getElem.1 ha
    rcases Nat.lt_or_gt_of_ne hij with h | h
    · have := hp i j h1 h2 h
      rw [e1, e2] at this
      exact this a b ea eb
    · have := hp j i h2 h1 h
      rw [e1, e2] at this
      exact (this.symm) a b ea eb
  outer := by
    rintro ⟨x, hx, a, ea, _, e⟩
    obtain ⟨base, xs, h⟩ := hr x hx
    have := (h.lt a ea).2
    omega
/-- What the call leaves. -/
theorem owned_grew {w w' : World} {t : TypeId} {R : List Sl} {S : Nat → Prop} (h : Only (blocksOf R) (w.alloc (.cells (R.map Sl.val).toArray t)) w') (hs : ∀ x ∈ R, ∀ a, x.1 = some a → S a.block) : Grew S w w' := by
  refine (Grew.of_new ((Below.refl _ _).alloc (Nat.le_refl _) _)).trans ((Grew.of_only h).mono fun k _ hk => ?_)
  obtain ⟨x, hx, a, ea, _, e⟩ := hk
  rw [e]
  exact hs x hx a ea
end Go.Proofs.Ytbjlmodabiadfaa
namespace Go.Proofs.Ytbjlmodabiadfaa
open Go.RowKit

theorem strCells_bv (s : ByteArray) : Go.Lib.strCells s = bv s.data.toList := rfl
theorem length_str (s : ByteArray) : (bv s.data.toList).length = s.size := by rw [← strCells_bv, Go.Lib.strCells_length]
theorem run_append_row_str {P : Program} {t u ty e : TypeId} {i : TypeInfo} (ht : P.underlying t = some (.slice e)) (hu : P.underlying u = some .string) (hi : P.info? e = some i) (hz : i.zero = some (.int .u8 0))
    (hsize : i.size = 1) (hby : i.bytes = 1)
    {w : World} {base n cap : Nat} {A : Option Addr} {xs : List Value} (hd : Row w base 1 A n cap xs) (s : ByteArray)
    (h63 : n + s.size ≤ maxLen) (hbytes : n + s.size ≤ 140737488355328) (hbase : base ≤ w.heap.size) :
    ∃ A' cap' w', (Builtin.append_ #[t, u] ty #[.slice A n cap, .string s]).run P w = .ok (.slice A' (n + s.size) cap') w' ∧ Row w' base 1 A' (n + s.size) cap' (xs ++ bv s.data.toList) ∧ w.grownBy w' (A.map (·.block)) ∧
      (A' = A ∨ ∃ ad, A' = some ad ∧ w.heap.size ≤ ad.block) := by
  have hxl : xs.length = n := by have := hd.1; omega
  have hyl := length_str s
  have hone := Go.Lib.strCells_oneCell s
  rw [strCells_bv] at hone
  cases hA : A with
  | none =>
    subst hA
    have hc0 := hd.2.2.2.1 rfl
    have hnc := hd.2.1
    obtain rfl : cap = 0 := hc0
    obtain rfl : n = 0 := by omega
    obtain rfl : xs = [] := List.eq_nil_of_length_eq_zero hxl
    obtain ⟨v', w', hrun, hown, hgr, _⟩ := Go.Lib.run_append_own_string (P := P) w w.heap.size t u ty e i ht hu hi hz hsize hby (.slice none 0 0) 0 [] (World.ownsRow_nil w _ e 1) s h63 hbytes (Nat.le_refl _)
    obtain ⟨A', cap', rfl, hrow⟩ := Row.of_own hown
    have hat : A' = none ∨ ∃ ad, A' = some ad ∧ w.heap.size ≤ ad.block := by
      cases A' with
      | none => exact .inl rfl
      | some ad => exact .inr ⟨ad, rfl, (hrow.lt ad rfl).1⟩
    exact ⟨A', cap', w', hrun, hrow.mono hbase, hgr, hat⟩
  | some ad =>
    subst hA
    obtain ⟨g, o, rfl, hg, hlt, hcell, hx⟩ := hd.2.2.2.2 _ rfl
    by_cases hroom : n + s.size ≤ cap
    · have hsp : ∀ j, j < (bv s.data.toList).length → n + j < cap * 1 := fun j hj => by rw [hyl] at hj; omega
      have hf := Go.Lib.run_firstCells_string (P := P) w 1 s
      have hst := run_storeCells_cells (P := P) g (o + n) (bv s.data.toList) 0 w (fun j hj => by rw [Nat.add_zero, Nat.add_assoc]; exact (hcell _ (hsp j hj)).1) (fun j hj => by rw [Nat.add_zero, Nat.add_assoc]; exact (hcell _ (hsp j hj)).2) hone
      simp only [Nat.add_zero] at hst
      have hrun : (Builtin.append_ #[t, u] ty #[.slice (some ⟨g, o, none⟩) n cap, .string s]).run P w = .ok (.slice (some ⟨g, o, none⟩) (n + s.size) cap) (w.setCells g (o + n) (bv s.data.toList)) := by
        rw [strCells_bv] at hf
        simp [Builtin.append_, run_underlying ht, run_underlying hu, sizeOf, typeInfo, hi, hsize, Builtin.lenOf, hroom, hf, Addr.add_lit, hst]
      have hon : Only (· = g) w (w.setCells g (o + n) (bv s.data.toList)) := Only.setCells (S := (· = g)) rfl _ _ (Only.refl _ _) fun j hj => by rw [Nat.add_assoc]; exact (hcell _ (hsp j hj)).1
      refine ⟨_, cap, _, hrun, ⟨by rw [List.length_append, hxl, hyl, Nat.mul_one], hroom, hd.2.2.1, (fun e => by cases e), fun ad e => ?_⟩, ⟨hon.os, hon.tape, hon.output, Nat.le_of_eq hon.size.symm, fun k _ hk => hon.block k (fun e => hk (by rw [e]; rfl))⟩, .inl rfl⟩
      simp only [Option.some.injEq] at e
      subst e
      refine ⟨g, o, rfl, hg, by rw [hon.size]; exact hlt, fun j hj => by rw [hon.there, hon.frozen]; exact hcell j hj, fun j u hu => ?_⟩
      rcases Nat.lt_or_ge j n with hj | hj
      · rw [World.cell?_setCells_out g _ (o + n) w ⟨g, o + j, none⟩ (fun _ _ => .inl (by show o + j < o + n; omega))]
        rw [List.getElem?_append_left (by omega)] at hu
        exact hx j u hu
      · rw [List.getElem?_append_right (by omega), hxl] at hu
        have hj2 : j - n < (bv s.data.toList).length := (List.getElem?_eq_some_iff.1 hu).1
        have := World.cell?_setCells_in g (bv s.data.toList) (o + n) w (fun i hi => by rw [Nat.add_assoc]; exact (hcell _ (hsp i hi)).1) (j - n) hj2
        rw [show o + n + (j - n) = o + j by omega] at this
        rw [this, ← hu, List.getElem?_eq_getElem hj2]
    · have hr := Go.Lib.run_append_grow_string (P := P) w t u ty e i (.int .u8 0) ht hu hi hz ⟨g, o, none⟩ n cap xs (by rw [hsize]; omega) (fun j u hj => by rw [add_plain]; exact hx j u hj) s (by omega) (by unfold maxLen at h63; omega) (by rw [hby]; exact growslice_fits (by omega) (by omega))
      have hge := grownCap_ge w (n + s.size) cap e
      have hcm : grownCap w (n + s.size) cap e ≤ maxLen := grownCap_le_maxLen w (n + s.size) cap e h63
      have hlen : (xs ++ Go.Lib.strCells s).length = (n + s.size) * 1 := by rw [List.length_append, hxl, Go.Lib.strCells_length, Nat.mul_one]
      have hown : (w.drew.alloc (.cells (xs.toArray ++ (Go.Lib.strCells s).toArray ++ Builtin.zeroCells (Value.int .u8 0).cells (grownCap w (n + s.size) cap e - (n + s.size))) e)).ownsRow w.heap.size e 1
          (.slice (some ⟨w.heap.size, 0, none⟩) (n + s.size) (grownCap w (n + s.size) cap e)) (n + s.size) (xs ++ Go.Lib.strCells s) := by
        refine ⟨hlen, .inr ⟨w.heap.size, _, _, rfl, Nat.le_refl _, heap_alloc_new w.drew _, hge, hcm, ?_, ?_⟩⟩
        · have hz1 : (Value.int IntKind.u8 0).cells.size = 1 := rfl
          simp only [Array.size_append, List.size_toArray, size_zeroCells, hz1, hxl, Go.Lib.strCells_length]
          omega
        · simp only [Array.toList_append, List.append_assoc]
          rw [← List.append_assoc, ← hlen]
          exact List.take_left
      obtain ⟨A', cap', e', hrow⟩ := Row.of_own hown
      cases e'
      exact ⟨_, _, _, hr, hrow.mono hbase, ⟨rfl, rfl, rfl, by simp, fun k hk _ => heap_alloc_old w.drew _ hk⟩, .inr ⟨_, rfl, (hrow.lt _ rfl).1⟩⟩
theorem step_append_row_str {P : Program} {ops : Array Oper} {o : Oper} {a : Act} {K : Act → World → Prop} {Q : Exit → Act → World → Prop} {E : Prop} (hgd : o.guard = none) (sl x : Operand) {t u : TypeId}
    (ho : o.op = .call { callee := .builtin .append, args := #[sl, x], argTypes := #[t, u] })
    {e : TypeId} {i : TypeInfo} (ht : P.underlying t = some (.slice e)) (hu : P.underlying u = some .string) (hi : P.info? e = some i) (hz : i.zero = some (.int .u8 0))
    (hsize : i.size = 1) (hby : i.bytes = 1)
    {w : World} {base n cap : Nat} {A : Option Addr} {xs : List Value} (hs : a.eval sl = .slice A n cap) (hd : Row w base 1 A n cap xs) {s : ByteArray} (hx : a.eval x = .string s)
    (h63 : n + s.size ≤ maxLen) (hbytes : n + s.size ≤ 140737488355328) (hbase : base ≤ w.heap.size)
    (h : ∀ A' cap' w', Row w' base 1 A' (n + s.size) cap' (xs ++ bv s.data.toList) → w.grownBy w' (A.map (·.block)) → (A' = A ∨ ∃ ad, A' = some ad ∧ w.heap.size ≤ ad.block) → K (a.put o.dst (.slice A' (n + s.size) cap')) w') :
    if Region.wanted o (yielded ops a.tmps) = true then Oper.wp P o a w K Q else E := by
  have hw : Region.wanted o (yielded ops a.tmps) = true := by simp [Region.wanted, hgd]
  rw [if_pos hw]
  obtain ⟨A', cap', w', hrun, h2, h3, h4⟩ := run_append_row_str (P := P) (ty := o.type) ht hu hi hz hsize hby hd s h63 hbytes hbase
  unfold Oper.wp execOp
  simp only [ho, resolve, invoke, builtin, Sem.run_bind, Sem.run_pure, Result.andThen_ok, List.map_toArray, List.map_cons, List.map_nil, hs, hx, hrun]
  exact h A' cap' w' h2 h3 h4
theorem wpList_append_row_str {P : Program} {ops : Array Oper} {rest : List Oper} {o : Oper} {a : Act} {Q : Exit → Act → World → Prop} (hgd : o.guard = none) (sl x : Operand) {t u : TypeId}
    (ho : o.op = .call { callee := .builtin .append, args := #[sl, x], argTypes := #[t, u] })
    {e : TypeId} {i : TypeInfo} (ht : P.underlying t = some (.slice e)) (hu : P.underlying u = some .string) (hi : P.info? e = some i) (hz : i.zero = some (.int .u8 0))
    (hsize : i.size = 1) (hby : i.bytes = 1)
    {w : World} {base n cap : Nat} {A : Option Addr} {xs : List Value} (hs : a.eval sl = .slice A n cap) (hd : Row w base 1 A n cap xs) {s : ByteArray} (hx : a.eval x = .string s)
    (h63 : n + s.size ≤ maxLen) (hbytes : n + s.size ≤ 140737488355328) (hbase : base ≤ w.heap.size)
    (h : ∀ A' cap' w', Row w' base 1 A' (n + s.size) cap' (xs ++ bv s.data.toList) → w.grownBy w' (A.map (·.block)) → (A' = A ∨ ∃ ad, A' = some ad ∧ w.heap.size ≤ ad.block) → wpList P ops Q rest (a.put o.dst (.slice A' (n + s.size) cap')) w') :
    wpList P ops Q (o :: rest) a w := by
  refine wpList_plain hgd fun K hK => ?_
  obtain ⟨A', cap', w', hrun, h2, h3, h4⟩ := run_append_row_str (P := P) (ty := o.type) ht hu hi hz hsize hby hd s h63 hbytes hbase
  unfold Oper.wp
  simp only [execOp, ho, resolve, invoke, builtin, Sem.run_bind, Sem.run_pure, Result.andThen_ok, List.map_toArray, List.map_cons, List.map_nil, hs, hx, hrun]
  exact hK _ _ (h A' cap' w' h2 h3 h4)
end Go.Proofs.Ytbjlmodabiadfaa
namespace Go.Proofs.Ytbjlmodabiadfaa
open Go

section
variable {P : Program} {ops : Array Oper} {Q : Exit → Act → World → Prop} {F : Nat → Value → World → Prop} {G : World → World → Prop} {J : World → Prop} {W : World} {a0 : Act}

theorem inv_step_n (n : Nat) (hB : factsB ops = true) (htr : ∀ x y z, G x y → G y z → G x z) (hst : ∀ j v w w', F j v w → G w w' → F j v w') (hS : ∀ V, StepsAll F G J W a0 P ops Q V (ops.toList.take n) 0 a0)
    {listed : Array Bool} {a : Act} {w : World} (hI : Inv (ops := ops) F G J W a0 listed a w) {i : Nat} (hin : i < n) (hr : i ∈ Region.ready .any ops listed) :
    wpOp P ops Q i (Inv (ops := ops) F G J W a0 (listed.setIfInBounds i true)) a w := by
  obtain ⟨hun, o, ho, hall⟩ := mem_ready.1 hr
  obtain ⟨hsel, hlook, hback, hdist⟩ := facts_spec hB ho
  have hi : i < ops.size := (Array.getElem?_eq_some_iff.1 ho).1
  have hil : i < listed.size := by rw [hI.lsize]; exact hi
  have hunf : listed.getD i false = false := by simp [hil] at hun ⊢; exact hun
  let V : Nat → Value := fun j => match ops[j]? with | some oj => slotOf a oj.dst | none => undef
  have hV : ∀ (j : Nat) (oj : Oper), ops[j]? = some oj → V j = slotOf a oj.dst := fun j oj hj => by simp only [V, hj]
  have hdeps : ∀ j, waitsB o j = true → F j (V j) w := fun j hw => by
    obtain ⟨e, he, hb⟩ := List.any_eq_true.1 hw
    have he' : e ∈ o.after := by simpa using he
    simp only [Bool.and_eq_true, beq_iff_eq] at hb
    obtain ⟨hb, rfl⟩ := hb
    have hon : e.on < ops.size := Nat.lt_trans (hback e he' hb) hi
    have hoj : ops[e.on]? = some ops[e.on] := Array.getElem?_eq_getElem hon
    rw [hV _ _ hoj]
    exact hI.fact _ _ hoj (hall e he' hb)
  have hb := steps_at F G J W a0 V (ops.toList.take n) 0 _ (hS V) i o (by rw [List.getElem?_take, if_pos hin, Array.getElem?_toList]; exact ho) w hI.grown hI.keeps hdeps
  rw [List.take_take, Nat.min_eq_left (Nat.le_of_lt hin)] at hb
  generalize hbf : fillTo V (ops.toList.take i) 0 a0 = b at hb
  have hbs : b.tmps.size = a0.tmps.size := by rw [← hbf, fill_size]
  have hbd : b.defers = a0.defers := by rw [← hbf, fill_defers]
  have hsl : ∀ t, t ∈ o.looksAt ops → b.tmps[t]? = a.tmps[t]? := fun t ht => by
    by_cases hex : ∃ (j : Nat) (oj : Oper), ops[j]? = some oj ∧ oj.dst = some t
    · obtain ⟨j, oj, hj, hd⟩ := hex
      obtain ⟨hji, e, he, hbe, hej⟩ := hlook t ht j oj hj hd
      have htk : (ops.toList.take i)[j]? = some oj := by rw [List.getElem?_take, if_pos hji, Array.getElem?_toList]; exact hj
      by_cases hts : t < a0.tmps.size
      · rw [← hbf, fill_at V t (ops.toList.take i) 0 j a0 oj htk hd hts (fun i' o' hi' hne hd' => ?_), Nat.zero_add, hV j oj hj, hd]
        · simp [slotOf, Array.getElem?_eq_getElem (show t < a.tmps.size by rw [hI.size]; exact hts)]
        · rw [List.getElem?_take] at hi'
          split at hi'
          · rw [Array.getElem?_toList] at hi'
            exact (facts_spec hB hj).2.2.2 i' o' t hi' hne hd' hd
          · cases hi'
      · have h1 : b.tmps[t]? = none := Array.getElem?_eq_none (by rw [hbs]; exact Nat.le_of_not_lt hts)
        have h2 : a.tmps[t]? = none := Array.getElem?_eq_none (by rw [hI.size]; exact Nat.le_of_not_lt hts)
        rw [h1, h2]
    · have hn : ∀ (j : Nat) (oj : Oper), ops[j]? = some oj → oj.dst ≠ some t := fun j oj hj hd => hex ⟨j, oj, hj, hd⟩
      rw [hI.other t fun j oj hj _ => hn j oj hj, ← hbf, fill_other]
      intro x hx
      obtain ⟨j, hj⟩ := List.getElem?_of_mem (List.mem_of_mem_take hx)
      rw [Array.getElem?_toList] at hj
      exact hn j x hj
  have hev : execOp b.eval o = execOp a.eval o := execOp_congr o hsel fun x hx => by
    cases x with
    | tmp t =>
      have := hsl t (List.mem_append_left _ (List.mem_filterMap.2 ⟨.tmp t, by simpa using hx, rfl⟩))
      simp only [Act.eval, Array.getD_eq_getD_getElem?, this]
    | _ => rfl
  have hwa : Region.wanted o (yielded ops b.tmps) = Region.wanted o (yielded ops a.tmps) := by
    unfold Region.wanted
    cases hg : o.guard with
    | none => rfl
    | some gw =>
      obtain ⟨g, want⟩ := gw
      have hy : yielded ops b.tmps g = yielded ops a.tmps g := by
        unfold yielded
        cases ht : (ops[g]?).bind (·.dst) with
        | none => rfl
        | some t =>
          have := hsl t (by simp [Oper.looksAt, hg, ht])
          simp only [Option.bind_some, this]
      simp only [hy]
  have hK : ∀ v w', (G w w' ∧ J w' ∧ F i (slotOf (b.put o.dst v) o.dst) w') → Inv (ops := ops) F G J W a0 (listed.setIfInBounds i true) (a.put o.dst v) w' := fun v w' ⟨hg, hj, hf⟩ => by
    refine ⟨htr _ _ _ hI.grown hg, hj, by rw [put_defers']; exact hI.defers, by rw [put_size]; exact hI.size, by simp [hI.lsize], fun t ht => ?_, fun j oj hoj hl => ?_⟩
    · have hne : o.dst ≠ some t := ht i o ho (by simp [hil])
      rw [put_other _ _ _ _ hne]
      refine hI.other t fun j oj hoj hl => ht j oj hoj ?_
      by_cases e : j = i
      · subst e; simp [hil]
      · rw [Array.getD_eq_getD_getElem?, Array.getElem?_setIfInBounds_ne (Ne.symm e), ← Array.getD_eq_getD_getElem?]; exact hl
    · by_cases e : j = i
      · subst e
        obtain rfl : oj = o := Option.some.inj (hoj.symm.trans ho)
        have : slotOf (a.put oj.dst v) oj.dst = slotOf (b.put oj.dst v) oj.dst := by
          cases hd : oj.dst with
          | none => rfl
          | some d =>
            simp only [slotOf, Array.getD_eq_getD_getElem?]
            by_cases hds : d < a0.tmps.size
            · rw [put_same _ _ _ (by rw [hI.size]; exact hds), put_same _ _ _ (by rw [hbs]; exact hds)]
            · have h1 : (a.put (some d) v).tmps[d]? = none := Array.getElem?_eq_none (by rw [put_size, hI.size]; exact Nat.le_of_not_lt hds)
              have h2 : (b.put (some d) v).tmps[d]? = none := Array.getElem?_eq_none (by rw [put_size, hbs]; exact Nat.le_of_not_lt hds)
              rw [h1, h2]
        rw [this]
        exact hf
      · rw [Array.getD_eq_getD_getElem?, Array.getElem?_setIfInBounds_ne (Ne.symm e), ← Array.getD_eq_getD_getElem?] at hl
        have : slotOf (a.put o.dst v) oj.dst = slotOf a oj.dst := by
          cases hd : oj.dst with
          | none => rfl
          | some d =>
            simp only [slotOf, Array.getD_eq_getD_getElem?]
            rw [put_other _ _ _ _ (hdist j oj d hoj e hd)]
        rw [this]
        exact hst j _ _ _ (hI.fact j oj hoj hl) hg
  unfold wpOp
  simp only [ho]
  unfold wpList at hb
  rw [hwa] at hb
  split
  · rename_i hw
    rw [if_pos hw] at hb
    rw [Nat.zero_add] at hb
    rcases hb with hb | ⟨hb, hl⟩
    · left
      unfold Oper.wp at hb ⊢
      rw [hev] at hb
      exact upon_move (R := StepR F G J i w) hbd hK _ hb
    · right
      refine ⟨?_, stepQ_out _ _ _ hl⟩
      unfold Oper.asks at hb ⊢
      rw [hev] at hb
      exact hb
  · rename_i hw
    rw [if_neg hw, Nat.zero_add] at hb
    exact hK undef w hb.2

/-- An operation waits for another, directly or through others. -/
def cloB (ops : Array Oper) : Nat → Nat → Nat → Bool
  | 0, _, _ => false
  | f + 1, i, j => match ops[i]? with | some o => waitsB o j || (List.range i).any fun k => waitsB o k && cloB ops f k j | none => false
/-- From n on, each operation waits for all ahead of it. -/
def tailB (ops : Array Oper) (n : Nat) : Bool := (List.range ops.size).all fun i => decide (i < n) || (List.range i).all fun j => cloB ops (i + 1) i j
/-- What is done has nothing undone ahead of it. -/
def Down (ops : Array Oper) (listed : Array Bool) : Prop := ∀ (j : Nat) (o : Oper), ops[j]? = some o → listed.getD j false = true → ∀ e ∈ o.after, Region.binds .any e = true → listed.getD e.on false = true
theorem clo_done (hB : factsB ops = true) {listed : Array Bool} (hD : Down ops listed) : ∀ (f i j : Nat) (o : Oper), cloB ops f i j = true → ops[i]? = some o → (∀ e ∈ o.after, Region.binds .any e = true → listed.getD e.on false = true) → listed.getD j false = true
  | 0, _, _, _, h, _, _ => by simp [cloB] at h
  | f + 1, i, j, o, h, ho, hall => by
    simp only [cloB, ho, Bool.or_eq_true] at h
    rcases h with h | h
    · obtain ⟨e, he, hb⟩ := List.any_eq_true.1 h
      simp only [Bool.and_eq_true, beq_iff_eq] at hb
      rw [← hb.2]
      exact hall e (by simpa using he) hb.1
    · obtain ⟨k, _, hk⟩ := List.any_eq_true.1 h
      simp only [Bool.and_eq_true] at hk
      obtain ⟨e, he, hb⟩ := List.any_eq_true.1 hk.1
      simp only [Bool.and_eq_true, beq_iff_eq] at hb
      obtain ⟨hb, rfl⟩ := hb
      have he' : e ∈ o.after := by simpa using he
      have hi : i < ops.size := (Array.getElem?_eq_some_iff.1 ho).1
      have hlt := (facts_spec hB ho).2.2.1 e he' hb
      have hok : ops[e.on]? = some (ops[e.on]'(by omega)) := Array.getElem?_eq_getElem (by omega)
      exact clo_done hB hD f e.on j _ hk.2 hok (hD e.on _ hok (hall e he' hb))
theorem tail_done {n : Nat} (hB : factsB ops = true) (hT : tailB ops n = true) {listed : Array Bool} (hD : Down ops listed) {i : Nat} {o : Oper} (ho : ops[i]? = some o) (hi : n ≤ i) (hall : ∀ e ∈ o.after, Region.binds .any e = true → listed.getD e.on false = true) {j : Nat} (hj : j < i) : listed.getD j false = true := by
  have his : i < ops.size := (Array.getElem?_eq_some_iff.1 ho).1
  have h := List.all_eq_true.1 hT i (List.mem_range.2 his)
  simp only [Bool.or_eq_true, decide_eq_true_eq] at h
  rcases h with h | h
  · omega
  · exact clo_done hB hD _ i j o (List.all_eq_true.1 h j (List.mem_range.2 hj)) ho hall
/-- Just the operations ahead of i are done. -/
def Upto (ops : Array Oper) (listed : Array Bool) (i : Nat) : Prop := listed.size = ops.size ∧ ∀ j, j < ops.size → (listed.getD j false = true ↔ j < i)
theorem getD_true_of {listed : Array Bool} {j : Nat} (h : j < listed.size) : listed.getD j true = listed.getD j false := by
  simp [Array.getElem?_eq_getElem h]
theorem upto_next {listed : Array Bool} {i : Nat} (h : Upto ops listed i) (hi : i < ops.size) : Upto ops (listed.setIfInBounds i true) (i + 1) := by
  refine ⟨by simp [h.1], fun j hj => ?_⟩
  by_cases e : j = i
  · subst e; simp [h.1, hi]
  · rw [Array.getD_eq_getD_getElem?, Array.getElem?_setIfInBounds_ne (Ne.symm e), ← Array.getD_eq_getD_getElem?, h.2 j hj]
    omega
theorem upto_down (hB : factsB ops = true) {listed : Array Bool} {i : Nat} (h : Upto ops listed i) : Down ops listed := fun j o ho hl e he hb => by
  have hj : j < ops.size := (Array.getElem?_eq_some_iff.1 ho).1
  have h1 := (facts_spec hB ho).2.2.1 e he hb
  have h2 := (h.2 j hj).1 hl
  exact (h.2 e.on (by omega)).2 (by omega)
theorem tail_run {n : Nat} (hB : factsB ops = true) (hT : tailB ops n = true) : ∀ (m i fuel : Nat) (listed : Array Bool) (a : Act) (w : World), ops.size - i = m → n ≤ i → i ≤ ops.size → m ≤ fuel → Upto ops listed i → wpList P ops Q (ops.toList.drop i) a w → wpAny P .any ops Q fuel listed a w := by
  have all : ∀ (i : Nat) (listed : Array Bool), Upto ops listed i → ∀ k ∈ Region.ready .any ops listed, n ≤ i → i ≤ k ∧ k < ops.size ∧ ¬ i < k := fun i listed hU k hk hni => by
    obtain ⟨hun, o, ho, hall⟩ := mem_ready.1 hk
    have hkl : k < ops.size := (Array.getElem?_eq_some_iff.1 ho).1
    have hik : i ≤ k := by
      rcases Nat.lt_or_ge k i with h | h
      · have h1 := (hU.2 k hkl).2 h
        rw [getD_true_of (by rw [hU.1]; exact hkl)] at hun
        rw [h1] at hun; cases hun
      · exact h
    refine ⟨hik, hkl, fun hlt => ?_⟩
    have h1 := tail_done hB hT (upto_down hB hU) ho (Nat.le_trans hni hik) hall hlt
    have h2 := (hU.2 i (Nat.lt_trans hlt hkl)).1 h1
    omega
  intro m
  induction m with
  | zero =>
    intro i fuel listed a w hm hni his hf hU h
    have hi : i = ops.size := by omega
    have hr : Region.ready .any ops listed = [] := List.eq_nil_iff_forall_not_mem.2 fun k hk => by
      have := all i listed hU k hk hni
      omega
    have hQ : Q .normal a w := by
      rw [List.drop_of_length_le (by simp; omega)] at h
      exact h
    cases fuel with
    | zero => exact ⟨hr, hQ⟩
    | succ fuel => exact ⟨fun _ => hQ, fun k hk => by rw [hr] at hk; cases hk⟩
  | succ m ih =>
    intro i fuel listed a w hm hni his hf hU h
    have hi : i < ops.size := by omega
    cases fuel with
    | zero => omega
    | succ fuel =>
      have hoi : ops[i]? = some ops[i] := Array.getElem?_eq_getElem hi
      have hrd : i ∈ Region.ready .any ops listed := mem_ready.2 ⟨by
        have : ¬ (listed.getD i false = true) := fun h' => by have := (hU.2 i hi).1 h'; omega
        rw [getD_true_of (by rw [hU.1]; exact hi)]
        simpa using this, _, hoi, fun e he hb => by
        have h1 := (facts_spec hB hoi).2.2.1 e he hb
        exact (hU.2 e.on (by omega)).2 h1⟩
      refine ⟨fun hr => (by rw [hr] at hrd; cases hrd), fun k hk => ?_⟩
      have hki : k = i := by have := all i listed hU k hk hni; omega
      subst hki
      have hd : ops.toList.drop k = ops[k] :: ops.toList.drop (k + 1) := by
        rw [List.drop_eq_getElem_cons (by simpa using hi)]
        simp
      rw [hd] at h
      refine wpOp_mono (K := wpList P ops Q (ops.toList.drop (k + 1))) (fun a' w' h' => ih (k + 1) fuel _ a' w' (by omega) (by omega) (by omega) (by omega) (upto_next hU hi) h') ?_
      unfold wpOp
      simp only [hoi]
      exact h
/-- THE RULE with a tail. -/
theorem wp_region_facts_tail {id : Nat} (n : Nat) (F : Nat → Value → World → Prop) (G : World → World → Prop) (J : World → Prop) (hm : P.follows .mixedOrders = true) (hB : factsB ops = true) (hT : tailB ops n = true) (hn : n ≤ ops.size) (hG : ∀ x, G x x) (htr : ∀ x y z, G x y → G y z → G x z) (hst : ∀ j v w w', F j v w → G w w' → F j v w') {w : World}
    (hJ : J { w with drawn := w.drawn + 1 }) (hS : ∀ V, StepsAll F G J { w with drawn := w.drawn + 1 } a0 P ops Q V (ops.toList.take n) 0 a0)
    (hQ : ∀ V w', G { w with drawn := w.drawn + 1 } w' → J w' → (∀ j, j < n → F j (V j) w') → wpList P ops Q (ops.toList.drop n) (fillTo V (ops.toList.take n) 0 a0) w') : (Code.region id ops true).wp P Q a0 w := by
  refine wp_region_any hm ?_
  have main : ∀ (fuel : Nat) (listed : Array Bool) (a : Act) (w' : World), undone ops listed ≤ fuel → (∀ j, n ≤ j → j < ops.size → listed.getD j false = false) → Down ops listed → Inv (ops := ops) F G J { w with drawn := w.drawn + 1 } a0 listed a w' → wpAny P .any ops Q fuel listed a w' := by
    have least : ∀ (listed : Array Bool), listed.size = ops.size → (∃ j, j < n ∧ listed.getD j false = false) → ∃ i, i < n ∧ i ∈ Region.ready .any ops listed := fun listed hls ⟨j, hj, hl⟩ => by
      induction j using Nat.strongRecOn with
      | _ j ih =>
        by_cases hall : ∀ e ∈ (ops[j]'(by omega)).after, Region.binds .any e = true → listed.getD e.on false = true
        · exact ⟨j, hj, mem_ready.2 ⟨by rw [getD_true_of (by omega)]; exact hl, _, Array.getElem?_eq_getElem (by omega), hall⟩⟩
        · have hall' : ∃ e ∈ (ops[j]'(by omega)).after, Region.binds .any e = true ∧ listed.getD e.on false = false := by
            apply Classical.byContradiction
            intro hno
            refine hall fun e he hb => ?_
            cases h : listed.getD e.on false with
            | true => rfl
            | false => exact absurd ⟨e, he, hb, h⟩ hno
          obtain ⟨e, he, hb, hf⟩ := hall'
          have h1 := (facts_spec hB (Array.getElem?_eq_getElem (show j < ops.size by omega))).2.2.1 e he hb
          exact ih e.on h1 (by omega) hf
    have fin : ∀ (fuel : Nat) (listed : Array Bool) (a : Act) (w' : World), undone ops listed ≤ fuel → (∀ j, n ≤ j → j < ops.size → listed.getD j false = false) → Inv (ops := ops) F G J { w with drawn := w.drawn + 1 } a0 listed a w' → (∀ j, j < n → listed.getD j false = true) → wpAny P .any ops Q fuel listed a w' := fun fuel listed a w' hu hno hI hdone => by
      let V : Nat → Value := fun j => match ops[j]? with | some oj => slotOf a oj.dst | none => undef
      have hV : ∀ (j : Nat) (oj : Oper), ops[j]? = some oj → V j = slotOf a oj.dst := fun j oj hj => by simp only [V, hj]
      have ea : a = fillTo V (ops.toList.take n) 0 a0 := by
        have e1 : a.defers = (fillTo V (ops.toList.take n) 0 a0).defers := by rw [fill_defers]; exact hI.defers
        have e2 : a.tmps = (fillTo V (ops.toList.take n) 0 a0).tmps := by
          apply Array.ext_getElem?
          intro t
          by_cases hex : ∃ (j : Nat) (oj : Oper), ops[j]? = some oj ∧ j < n ∧ oj.dst = some t
          · obtain ⟨j, oj, hj, hjn, hd⟩ := hex
            by_cases hts : t < a0.tmps.size
            · rw [fill_at V t (ops.toList.take n) 0 j a0 oj (by rw [List.getElem?_take, if_pos hjn, Array.getElem?_toList]; exact hj) hd hts (fun i' o' hi' hne hd' => ?_), Nat.zero_add, hV j oj hj, hd]
              · simp [slotOf, Array.getElem?_eq_getElem (show t < a.tmps.size by rw [hI.size]; exact hts)]
              · rw [List.getElem?_take] at hi'
                split at hi'
                · rw [Array.getElem?_toList] at hi'
                  exact (facts_spec hB hj).2.2.2 i' o' t hi' hne hd' hd
                · cases hi'
            · have h1 : a.tmps[t]? = none := Array.getElem?_eq_none (by rw [hI.size]; exact Nat.le_of_not_lt hts)
              have h2 : (fillTo V (ops.toList.take n) 0 a0).tmps[t]? = none := Array.getElem?_eq_none (by rw [fill_size]; exact Nat.le_of_not_lt hts)
              rw [h1, h2]
          · have hoth : ∀ (j : Nat) (o : Oper), ops[j]? = some o → listed.getD j false = true → o.dst ≠ some t := fun j oj hj hl hd => by
              rcases Nat.lt_or_ge j n with h | h
              · exact hex ⟨j, oj, hj, h, hd⟩
              · rw [hno j h (Array.getElem?_eq_some_iff.1 hj).1] at hl
                cases hl
            rw [hI.other t hoth, fill_other]
            intro x hx hd
            obtain ⟨j, hj⟩ := List.getElem?_of_mem hx
            rw [List.getElem?_take] at hj
            split at hj
            · rw [Array.getElem?_toList] at hj
              exact hex ⟨j, x, hj, by assumption, hd⟩
            · cases hj
        cases a
        cases hf : fillTo V (ops.toList.take n) 0 a0
        rw [hf] at e1 e2
        simp only at e1 e2
        rw [e1, e2]
      have hq := hQ V w' hI.grown hI.keeps fun j hj => by
        have hoj : ops[j]? = some (ops[j]'(by omega)) := Array.getElem?_eq_getElem (by omega)
        rw [hV _ _ hoj]
        exact hI.fact _ _ hoj (hdone j hj)
      rw [← ea] at hq
      have hun : ops.size - n ≤ undone ops listed := by
        have e : (List.range ops.size).filter (fun i => !listed.getD i true) = (List.range ops.size).filter (fun i => decide (n ≤ i)) := by
          apply List.filter_congr
          intro i hi
          have hi' := List.mem_range.1 hi
          rw [getD_true_of (by rw [hI.lsize]; exact hi')]
          rcases Nat.lt_or_ge i n with h | h
          · rw [hdone i h]; simp; omega
          · rw [hno i h hi']; simp; omega
        unfold undone
        rw [e]
        have : ((List.range' n (ops.size - n)).filter (fun i => decide (n ≤ i))).length ≤ ((List.range ops.size).filter (fun i => decide (n ≤ i))).length := by
          apply List.Sublist.length_le
          apply List.Sublist.filter
          rw [List.range_eq_range', show ops.size = n + (ops.size - n) by omega, Nat.add_sub_cancel_left, List.range'_append_1 (s := 0) (m := n) (n := ops.size - n) |>.symm]
          simp
        refine Nat.le_trans ?_ this
        rw [List.filter_eq_self.2 (fun i hi => by simp at hi; simp; omega)]
        simp
      exact tail_run hB hT _ n fuel listed a w' rfl (Nat.le_refl _) hn (Nat.le_trans hun hu) ⟨hI.lsize, fun j hj => ⟨fun h => (by
        rcases Nat.lt_or_ge j n with h' | h'
        · exact h'
        · rw [hno j h' hj] at h
          cases h), hdone j⟩⟩ hq
    intro fuel
    induction fuel with
    | zero =>
      intro listed a w' hu hno hD hI
      by_cases hd : ∃ j, j < n ∧ listed.getD j false = false
      · obtain ⟨i, _, hi⟩ := least listed hI.lsize hd
        obtain ⟨hun, o, ho, _⟩ := mem_ready.1 hi
        have := undone_set (ops := ops) (Array.getElem?_eq_some_iff.1 ho).1 hun
        omega
      · exact fin 0 listed a w' hu hno hI fun j hj => by
          cases h : listed.getD j false with
          | true => rfl
          | false => exact absurd ⟨j, hj, h⟩ hd
    | succ fuel ih =>
      intro listed a w' hu hno hD hI
      by_cases hd : ∃ j, j < n ∧ listed.getD j false = false
      · obtain ⟨i0, _, hi0⟩ := least listed hI.lsize hd
        refine ⟨fun hr => (by rw [hr] at hi0; cases hi0), fun i hi => ?_⟩
        obtain ⟨hun, o, ho, hall⟩ := mem_ready.1 hi
        have hil : i < ops.size := (Array.getElem?_eq_some_iff.1 ho).1
        have hin : i < n := by
          rcases Nat.lt_or_ge i n with h | h
          · exact h
          · obtain ⟨j, hj, hl⟩ := hd
            have := tail_done hB hT hD ho h hall (Nat.lt_of_lt_of_le hj h)
            rw [hl] at this
            cases this
        refine wpOp_mono (fun a'' w'' hI' => ih _ a'' w'' ?_ (fun j hj hjs => ?_) ?_ hI') (inv_step_n n hB htr hst hS hI hin hi)
        · have := undone_set (ops := ops) hil hun
          omega
        · rw [Array.getD_eq_getD_getElem?, Array.getElem?_setIfInBounds_ne (by omega), ← Array.getD_eq_getD_getElem?]
          exact hno j hj hjs
        · intro j oj hoj hl e he hb
          have hils : i < listed.size := by rw [hI.lsize]; exact hil
          have old : listed.getD e.on false = true → (listed.setIfInBounds i true).getD e.on false = true := fun h => by
            by_cases e2 : e.on = i
            · rw [e2]; simp [hils]
            · rw [Array.getD_eq_getD_getElem?, Array.getElem?_setIfInBounds_ne (Ne.symm e2), ← Array.getD_eq_getD_getElem?]; exact h
          by_cases e2 : j = i
          · subst e2
            obtain rfl : oj = o := Option.some.inj (hoj.symm.trans ho)
            exact old (hall e he hb)
          · rw [Array.getD_eq_getD_getElem?, Array.getElem?_setIfInBounds_ne (Ne.symm e2), ← Array.getD_eq_getD_getElem?] at hl
            exact old (hD j oj hoj hl e he hb)
      · exact fin (fuel + 1) listed a w' hu hno hI fun j hj => by
          cases h : listed.getD j false with
          | true => rfl
          | false => exact absurd ⟨j, hj, h⟩ hd
  refine main ops.size _ _ _ ?_ (fun j _ h => by simp [h]) (fun j o ho hl => by
    have := (Array.getElem?_eq_some_iff.1 ho).1
    simp [this] at hl) ⟨hG _, hJ, rfl, rfl, by simp, fun t _ => rfl, fun j o _ hl => ?_⟩
  · unfold undone
    refine Nat.le_trans (List.length_filter_le _ _) (by simp)
  · rcases Nat.lt_or_ge j ops.size with h | h <;> simp [h] at hl
end
end Go.Proofs.Ytbjlmodabiadfaa
