/- GENERAL: a region that draws its order, whose last operations wait for all that stands ahead of them: facts first, then the tail as it stands. -/
import Derived.Test.YtiijjpjkfiookaaDoorFacts
namespace Go.Proofs.YtiijjpjkfiookaaDoor
open Go

section
variable {P : Program} {ops : Array Oper} {Q : Exit → Act → World → Prop} {F : Nat → Value → World → Prop} {G : World → World → Prop} {J : World → Prop} {W : World} {a0 : Act}

theorem inv_step_n (n : Nat) (hB : factsB ops = true) (htr : ∀ x y z, G x y → G y z → G x z) (hst : ∀ j v w w', F j v w → G w w' → F j v w') (hS : ∀ V, StepsAll F G J W a0 P ops Q V (ops.toList.take n) 0 a0)
    {listed : Array Bool} {a : Act} {w : World} (hI : Inv (ops := ops) F G J W a0 listed a w) {i : Nat} (hin : i < n) (hr : i ∈ Region.ready .any ops listed) :
    wpOp P ops Q i (Inv (ops := ops) F G J W a0 (listed.setIfInBounds i true)) a w := by
  obtain ⟨hun, o, ho, hall⟩ := mem_ready.1 hr
  obtain ⟨hsel, hlook, hback, hdist⟩ := facts_spec hB ho
  have hi : i < ops.size := (Array.getElem?_eq_some_iff.1 ho).1
  have hil : i < listed.size := by rw [hI.lsize]; exact hi
  have hunf : listed.getD i false = false := by simp [hil] at hun ⊢; exact hun
  let V : Nat → Value := fun j => match ops[j]? with | some oj => slotOf a oj.dst | none => undef
  have hV : ∀ (j : Nat) (oj : Oper), ops[j]? = some oj → V j = slotOf a oj.dst := fun j oj hj => by simp only [V, hj]
  have hdeps : ∀ j, waitsB o j = true → F j (V j) w := fun j hw => by
    obtain ⟨e, he, hb⟩ := List.any_eq_true.1 hw
    have he' : e ∈ o.after := by simpa using he
    simp only [Bool.and_eq_true, beq_iff_eq] at hb
    obtain ⟨hb, rfl⟩ := hb
    have hon : e.on < ops.size := Nat.lt_trans (hback e he' hb) hi
    have hoj : ops[e.on]? = some ops[e.on] := Array.getElem?_eq_getElem hon
    rw [hV _ _ hoj]
    exact hI.fact _ _ hoj (hall e he' hb)
  have hb := steps_at F G J W a0 V (ops.toList.take n) 0 _ (hS V) i o (by rw [List.getElem?_take, if_pos hin, Array.getElem?_toList]; exact ho) w hI.grown hI.keeps hdeps
  rw [List.take_take, Nat.min_eq_left (Nat.le_of_lt hin)] at hb
  generalize hbf : fillTo V (ops.toList.take i) 0 a0 = b at hb
  have hbs : b.tmps.size = a0.tmps.size := by rw [← hbf, fill_size]
  have hbd : b.defers = a0.defers := by rw [← hbf, fill_defers]
  have hsl : ∀ t, t ∈ o.looksAt ops → b.tmps[t]? = a.tmps[t]? := fun t ht => by
    by_cases hex : ∃ (j : Nat) (oj : Oper), ops[j]? = some oj ∧ oj.dst = some t
    · obtain ⟨j, oj, hj, hd⟩ := hex
      obtain ⟨hji, e, he, hbe, hej⟩ := hlook t ht j oj hj hd
      have htk : (ops.toList.take i)[j]? = some oj := by rw [List.getElem?_take, if_pos hji, Array.getElem?_toList]; exact hj
      by_cases hts : t < a0.tmps.size
      · rw [← hbf, fill_at V t (ops.toList.take i) 0 j a0 oj htk hd hts (fun i' o' hi' hne hd' => ?_), Nat.zero_add, hV j oj hj, hd]
        · simp [slotOf, Array.getElem?_eq_getElem (show t < a.tmps.size by rw [hI.size]; exact hts)]
        · rw [List.getElem?_take] at hi'
          split at hi'
          · rw [Array.getElem?_toList] at hi'
            exact (facts_spec hB hj).2.2.2 i' o' t hi' hne hd' hd
          · cases hi'
      · have h1 : b.tmps[t]? = none := Array.getElem?_eq_none (by rw [hbs]; exact Nat.le_of_not_lt hts)
        have h2 : a.tmps[t]? = none := Array.getElem?_eq_none (by rw [hI.size]; exact Nat.le_of_not_lt hts)
        rw [h1, h2]
    · have hn : ∀ (j : Nat) (oj : Oper), ops[j]? = some oj → oj.dst ≠ some t := fun j oj hj hd => hex ⟨j, oj, hj, hd⟩
      rw [hI.other t fun j oj hj _ => hn j oj hj, ← hbf, fill_other]
      intro x hx
      obtain ⟨j, hj⟩ := List.getElem?_of_mem (List.mem_of_mem_take hx)
      rw [Array.getElem?_toList] at hj
      exact hn j x hj
  have hev : execOp b.eval o = execOp a.eval o := execOp_congr o hsel fun x hx => by
    cases x with
    | tmp t =>
      have := hsl t (List.mem_append_left _ (List.mem_filterMap.2 ⟨.tmp t, by simpa using hx, rfl⟩))
      simp only [Act.eval, Array.getD_eq_getD_getElem?, this]
    | _ => rfl
  have hwa : Region.wanted o (yielded ops b.tmps) = Region.wanted o (yielded ops a.tmps) := by
    unfold Region.wanted
    cases hg : o.guard with
    | none => rfl
    | some gw =>
      obtain ⟨g, want⟩ := gw
      have hy : yielded ops b.tmps g = yielded ops a.tmps g := by
        unfold yielded
        cases ht : (ops[g]?).bind (·.dst) with
        | none => rfl
        | some t =>
          have := hsl t (by simp [Oper.looksAt, hg, ht])
          simp only [Option.bind_some, this]
      simp only [hy]
  have hK : ∀ v w', (G w w' ∧ J w' ∧ F i (slotOf (b.put o.dst v) o.dst) w') → Inv (ops := ops) F G J W a0 (listed.setIfInBounds i true) (a.put o.dst v) w' := fun v w' ⟨hg, hj, hf⟩ => by
    refine ⟨htr _ _ _ hI.grown hg, hj, by rw [put_defers']; exact hI.defers, by rw [put_size]; exact hI.size, by simp [hI.lsize], fun t ht => ?_, fun j oj hoj hl => ?_⟩
    · have hne : o.dst ≠ some t := ht i o ho (by simp [hil])
      rw [put_other _ _ _ _ hne]
      refine hI.other t fun j oj hoj hl => ht j oj hoj ?_
      by_cases e : j = i
      · subst e; simp [hil]
      · rw [Array.getD_eq_getD_getElem?, Array.getElem?_setIfInBounds_ne (Ne.symm e), ← Array.getD_eq_getD_getElem?]; exact hl
    · by_cases e : j = i
      · subst e
        obtain rfl : oj = o := Option.some.inj (hoj.symm.trans ho)
        have : slotOf (a.put oj.dst v) oj.dst = slotOf (b.put oj.dst v) oj.dst := by
          cases hd : oj.dst with
          | none => rfl
          | some d =>
            simp only [slotOf, Array.getD_eq_getD_getElem?]
            by_cases hds : d < a0.tmps.size
            · rw [put_same _ _ _ (by rw [hI.size]; exact hds), put_same _ _ _ (by rw [hbs]; exact hds)]
            · have h1 : (a.put (some d) v).tmps[d]? = none := Array.getElem?_eq_none (by rw [put_size, hI.size]; exact Nat.le_of_not_lt hds)
              have h2 : (b.put (some d) v).tmps[d]? = none := Array.getElem?_eq_none (by rw [put_size, hbs]; exact Nat.le_of_not_lt hds)
              rw [h1, h2]
        rw [this]
        exact hf
      · rw [Array.getD_eq_getD_getElem?, Array.getElem?_setIfInBounds_ne (Ne.symm e), ← Array.getD_eq_getD_getElem?] at hl
        have : slotOf (a.put o.dst v) oj.dst = slotOf a oj.dst := by
          cases hd : oj.dst with
          | none => rfl
          | some d =>
            simp only [slotOf, Array.getD_eq_getD_getElem?]
            rw [put_other _ _ _ _ (hdist j oj d hoj e hd)]
        rw [this]
        exact hst j _ _ _ (hI.fact j oj hoj hl) hg
  unfold wpOp
  simp only [ho]
  unfold wpList at hb
  rw [hwa] at hb
  split
  · rename_i hw
    rw [if_pos hw] at hb
    rw [Nat.zero_add] at hb
    rcases hb with hb | ⟨hb, hl⟩
    · left
      unfold Oper.wp at hb ⊢
      rw [hev] at hb
      exact upon_move (R := StepR F G J i w) hbd hK _ hb
    · right
      refine ⟨?_, stepQ_out _ _ _ hl⟩
      unfold Oper.asks at hb ⊢
      rw [hev] at hb
      exact hb
  · rename_i hw
    rw [if_neg hw, Nat.zero_add] at hb
    exact hK undef w hb.2

/-- An operation waits for another, directly or through others. -/
def cloB (ops : Array Oper) : Nat → Nat → Nat → Bool
  | 0, _, _ => false
  | f + 1, i, j => match ops[i]? with | some o => waitsB o j || (List.range i).any fun k => waitsB o k && cloB ops f k j | none => false
/-- From n on, each operation waits for all ahead of it. -/
def tailB (ops : Array Oper) (n : Nat) : Bool := (List.range ops.size).all fun i => decide (i < n) || (List.range i).all fun j => cloB ops (i + 1) i j
/-- What is done has nothing undone ahead of it. -/
def Down (ops : Array Oper) (listed : Array Bool) : Prop := ∀ (j : Nat) (o : Oper), ops[j]? = some o → listed.getD j false = true → ∀ e ∈ o.after, Region.binds .any e = true → listed.getD e.on false = true
theorem clo_done (hB : factsB ops = true) {listed : Array Bool} (hD : Down ops listed) : ∀ (f i j : Nat) (o : Oper), cloB ops f i j = true → ops[i]? = some o → (∀ e ∈ o.after, Region.binds .any e = true → listed.getD e.on false = true) → listed.getD j false = true
  | 0, _, _, _, h, _, _ => by simp [cloB] at h
  | f + 1, i, j, o, h, ho, hall => by
    simp only [cloB, ho, Bool.or_eq_true] at h
    rcases h with h | h
    · obtain ⟨e, he, hb⟩ := List.any_eq_true.1 h
      simp only [Bool.and_eq_true, beq_iff_eq] at hb
      rw [← hb.2]
      exact hall e (by simpa using he) hb.1
    · obtain ⟨k, _, hk⟩ := List.any_eq_true.1 h
      simp only [Bool.and_eq_true] at hk
      obtain ⟨e, he, hb⟩ := List.any_eq_true.1 hk.1
      simp only [Bool.and_eq_true, beq_iff_eq] at hb
      obtain ⟨hb, rfl⟩ := hb
      have he' : e ∈ o.after := by simpa using he
      have hi : i < ops.size := (Array.getElem?_eq_some_iff.1 ho).1
      have hlt := (facts_spec hB ho).2.2.1 e he' hb
      have hok : ops[e.on]? = some (ops[e.on]'(by omega)) := Array.getElem?_eq_getElem (by omega)
      exact clo_done hB hD f e.on j _ hk.2 hok (hD e.on _ hok (hall e he' hb))
theorem tail_done {n : Nat} (hB : factsB ops = true) (hT : tailB ops n = true) {listed : Array Bool} (hD : Down ops listed) {i : Nat} {o : Oper} (ho : ops[i]? = some o) (hi : n ≤ i) (hall : ∀ e ∈ o.after, Region.binds .any e = true → listed.getD e.on false = true) {j : Nat} (hj : j < i) : listed.getD j false = true := by
  have his : i < ops.size := (Array.getElem?_eq_some_iff.1 ho).1
  have h := List.all_eq_true.1 hT i (List.mem_range.2 his)
  simp only [Bool.or_eq_true, decide_eq_true_eq] at h
  rcases h with h | h
  · omega
  · exact clo_done hB hD _ i j o (List.all_eq_true.1 h j (List.mem_range.2 hj)) ho hall
/-- Just the operations ahead of i are done. -/
def Upto (ops : Array Oper) (listed : Array Bool) (i : Nat) : Prop := listed.size = ops.size ∧ ∀ j, j < ops.size → (listed.getD j false = true ↔ j < i)
theorem getD_true_of {listed : Array Bool} {j : Nat} (h : j < listed.size) : listed.getD j true = listed.getD j false := by
  simp [Array.getElem?_eq_getElem h]
theorem upto_next {listed : Array Bool} {i : Nat} (h : Upto ops listed i) (hi : i < ops.size) : Upto ops (listed.setIfInBounds i true) (i + 1) := by
  refine ⟨by simp [h.1], fun j hj => ?_⟩
  by_cases e : j = i
  · subst e; simp [h.1, hi]
  · rw [Array.getD_eq_getD_getElem?, Array.getElem?_setIfInBounds_ne (Ne.symm e), ← Array.getD_eq_getD_getElem?, h.2 j hj]
    omega
theorem upto_down (hB : factsB ops = true) {listed : Array Bool} {i : Nat} (h : Upto ops listed i) : Down ops listed := fun j o ho hl e he hb => by
  have hj : j < ops.size := (Array.getElem?_eq_some_iff.1 ho).1
  have h1 := (facts_spec hB ho).2.2.1 e he hb
  have h2 := (h.2 j hj).1 hl
  exact (h.2 e.on (by omega)).2 (by omega)
theorem tail_run {n : Nat} (hB : factsB ops = true) (hT : tailB ops n = true) : ∀ (m i fuel : Nat) (listed : Array Bool) (a : Act) (w : World), ops.size - i = m → n ≤ i → i ≤ ops.size → m ≤ fuel → Upto ops listed i → wpList P ops Q (ops.toList.drop i) a w → wpAny P .any ops Q fuel listed a w := by
  have all : ∀ (i : Nat) (listed : Array Bool), Upto ops listed i → ∀ k ∈ Region.ready .any ops listed, n ≤ i → i ≤ k ∧ k < ops.size ∧ ¬ i < k := fun i listed hU k hk hni => by
    obtain ⟨hun, o, ho, hall⟩ := mem_ready.1 hk
    have hkl : k < ops.size := (Array.getElem?_eq_some_iff.1 ho).1
    have hik : i ≤ k := by
      rcases Nat.lt_or_ge k i with h | h
      · have h1 := (hU.2 k hkl).2 h
        rw [getD_true_of (by rw [hU.1]; exact hkl)] at hun
        rw [h1] at hun; cases hun
      · exact h
    refine ⟨hik, hkl, fun hlt => ?_⟩
    have h1 := tail_done hB hT (upto_down hB hU) ho (Nat.le_trans hni hik) hall hlt
    have h2 := (hU.2 i (Nat.lt_trans hlt hkl)).1 h1
    omega
  intro m
  induction m with
  | zero =>
    intro i fuel listed a w hm hni his hf hU h
    have hi : i = ops.size := by omega
    have hr : Region.ready .any ops listed = [] := List.eq_nil_iff_forall_not_mem.2 fun k hk => by
      have := all i listed hU k hk hni
      omega
    have hQ : Q .normal a w := by
      rw [List.drop_of_length_le (by simp; omega)] at h
      exact h
    cases fuel with
    | zero => exact ⟨hr, hQ⟩
    | succ fuel => exact ⟨fun _ => hQ, fun k hk => by rw [hr] at hk; cases hk⟩
  | succ m ih =>
    intro i fuel listed a w hm hni his hf hU h
    have hi : i < ops.size := by omega
    cases fuel with
    | zero => omega
    | succ fuel =>
      have hoi : ops[i]? = some ops[i] := Array.getElem?_eq_getElem hi
      have hrd : i ∈ Region.ready .any ops listed := mem_ready.2 ⟨by
        have : ¬ (listed.getD i false = true) := fun h' => by have := (hU.2 i hi).1 h'; omega
        rw [getD_true_of (by rw [hU.1]; exact hi)]
        simpa using this, _, hoi, fun e he hb => by
        have h1 := (facts_spec hB hoi).2.2.1 e he hb
        exact (hU.2 e.on (by omega)).2 h1⟩
      refine ⟨fun hr => (by rw [hr] at hrd; cases hrd), fun k hk => ?_⟩
      have hki : k = i := by have := all i listed hU k hk hni; omega
      subst hki
      have hd : ops.toList.drop k = ops[k] :: ops.toList.drop (k + 1) := by
        rw [List.drop_eq_getElem_cons (by simpa using hi)]
        simp
      rw [hd] at h
      refine wpOp_mono (K := wpList P ops Q (ops.toList.drop (k + 1))) (fun a' w' h' => ih (k + 1) fuel _ a' w' (by omega) (by omega) (by omega) (by omega) (upto_next hU hi) h') ?_
      unfold wpOp
      simp only [hoi]
      exact h
/-- THE RULE with a tail. -/
theorem wp_region_facts_tail {id : Nat} (n : Nat) (F : Nat → Value → World → Prop) (G : World → World → Prop) (J : World → Prop) (hm : P.follows .mixedOrders = true) (hB : factsB ops = true) (hT : tailB ops n = true) (hn : n ≤ ops.size) (hG : ∀ x, G x x) (htr : ∀ x y z, G x y → G y z → G x z) (hst : ∀ j v w w', F j v w → G w w' → F j v w') {w : World}
    (hJ : J { w with drawn := w.drawn + 1 }) (hS : ∀ V, StepsAll F G J { w with drawn := w.drawn + 1 } a0 P ops Q V (ops.toList.take n) 0 a0)
    (hQ : ∀ V w', G { w with drawn := w.drawn + 1 } w' → J w' → (∀ j, j < n → F j (V j) w') → wpList P ops Q (ops.toList.drop n) (fillTo V (ops.toList.take n) 0 a0) w') : (Code.region id ops true).wp P Q a0 w := by
  refine wp_region_any hm ?_
  have main : ∀ (fuel : Nat) (listed : Array Bool) (a : Act) (w' : World), undone ops listed ≤ fuel → (∀ j, n ≤ j → j < ops.size → listed.getD j false = false) → Down ops listed → Inv (ops := ops) F G J { w with drawn := w.drawn + 1 } a0 listed a w' → wpAny P .any ops Q fuel listed a w' := by
    have least : ∀ (listed : Array Bool), listed.size = ops.size → (∃ j, j < n ∧ listed.getD j false = false) → ∃ i, i < n ∧ i ∈ Region.ready .any ops listed := fun listed hls ⟨j, hj, hl⟩ => by
      induction j using Nat.strongRecOn with
      | _ j ih =>
        by_cases hall : ∀ e ∈ (ops[j]'(by omega)).after, Region.binds .any e = true → listed.getD e.on false = true
        · exact ⟨j, hj, mem_ready.2 ⟨by rw [getD_true_of (by omega)]; exact hl, _, Array.getElem?_eq_getElem (by omega), hall⟩⟩
        · have hall' : ∃ e ∈ (ops[j]'(by omega)).after, Region.binds .any e = true ∧ listed.getD e.on false = false := by
            apply Classical.byContradiction
            intro hno
            refine hall fun e he hb => ?_
            cases h : listed.getD e.on false with
            | true => rfl
            | false => exact absurd ⟨e, he, hb, h⟩ hno
          obtain ⟨e, he, hb, hf⟩ := hall'
          have h1 := (facts_spec hB (Array.getElem?_eq_getElem (show j < ops.size by omega))).2.2.1 e he hb
          exact ih e.on h1 (by omega) hf
    have fin : ∀ (fuel : Nat) (listed : Array Bool) (a : Act) (w' : World), undone ops listed ≤ fuel → (∀ j, n ≤ j → j < ops.size → listed.getD j false = false) → Inv (ops := ops) F G J { w with drawn := w.drawn + 1 } a0 listed a w' → (∀ j, j < n → listed.getD j false = true) → wpAny P .any ops Q fuel listed a w' := fun fuel listed a w' hu hno hI hdone => by
      let V : Nat → Value := fun j => match ops[j]? with | some oj => slotOf a oj.dst | none => undef
      have hV : ∀ (j : Nat) (oj : Oper), ops[j]? = some oj → V j = slotOf a oj.dst := fun j oj hj => by simp only [V, hj]
      have ea : a = fillTo V (ops.toList.take n) 0 a0 := by
        have e1 : a.defers = (fillTo V (ops.toList.take n) 0 a0).defers := by rw [fill_defers]; exact hI.defers
        have e2 : a.tmps = (fillTo V (ops.toList.take n) 0 a0).tmps := by
          apply Array.ext_getElem?
          intro t
          by_cases hex : ∃ (j : Nat) (oj : Oper), ops[j]? = some oj ∧ j < n ∧ oj.dst = some t
          · obtain ⟨j, oj, hj, hjn, hd⟩ := hex
            by_cases hts : t < a0.tmps.size
            · rw [fill_at V t (ops.toList.take n) 0 j a0 oj (by rw [List.getElem?_take, if_pos hjn, Array.getElem?_toList]; exact hj) hd hts (fun i' o' hi' hne hd' => ?_), Nat.zero_add, hV j oj hj, hd]
              · simp [slotOf, Array.getElem?_eq_getElem (show t < a.tmps.size by rw [hI.size]; exact hts)]
              · rw [List.getElem?_take] at hi'
                split at hi'
                · rw [Array.getElem?_toList] at hi'
                  exact (facts_spec hB hj).2.2.2 i' o' t hi' hne hd' hd
                · cases hi'
            · have h1 : a.tmps[t]? = none := Array.getElem?_eq_none (by rw [hI.size]; exact Nat.le_of_not_lt hts)
              have h2 : (fillTo V (ops.toList.take n) 0 a0).tmps[t]? = none := Array.getElem?_eq_none (by rw [fill_size]; exact Nat.le_of_not_lt hts)
              rw [h1, h2]
          · have hoth : ∀ (j : Nat) (o : Oper), ops[j]? = some o → listed.getD j false = true → o.dst ≠ some t := fun j oj hj hl hd => by
              rcases Nat.lt_or_ge j n with h | h
              · exact hex ⟨j, oj, hj, h, hd⟩
              · rw [hno j h (Array.getElem?_eq_some_iff.1 hj).1] at hl
                cases hl
            rw [hI.other t hoth, fill_other]
            intro x hx hd
            obtain ⟨j, hj⟩ := List.getElem?_of_mem hx
            rw [List.getElem?_take] at hj
            split at hj
            · rw [Array.getElem?_toList] at hj
              exact hex ⟨j, x, hj, by assumption, hd⟩
            · cases hj
        cases a
        cases hf : fillTo V (ops.toList.take n) 0 a0
        rw [hf] at e1 e2
        simp only at e1 e2
        rw [e1, e2]
      have hq := hQ V w' hI.grown hI.keeps fun j hj => by
        have hoj : ops[j]? = some (ops[j]'(by omega)) := Array.getElem?_eq_getElem (by omega)
        rw [hV _ _ hoj]
        exact hI.fact _ _ hoj (hdone j hj)
      rw [← ea] at hq
      have hun : ops.size - n ≤ undone ops listed := by
        have e : (List.range ops.size).filter (fun i => !listed.getD i true) = (List.range ops.size).filter (fun i => decide (n ≤ i)) := by
          apply List.filter_congr
          intro i hi
          have hi' := List.mem_range.1 hi
          rw [getD_true_of (by rw [hI.lsize]; exact hi')]
          rcases Nat.lt_or_ge i n with h | h
          · rw [hdone i h]; simp; omega
          · rw [hno i h hi']; simp; omega
        unfold undone
        rw [e]
        have : ((List.range' n (ops.size - n)).filter (fun i => decide (n ≤ i))).length ≤ ((List.range ops.size).filter (fun i => decide (n ≤ i))).length := by
          apply List.Sublist.length_le
          apply List.Sublist.filter
          rw [List.range_eq_range', show ops.size = n + (ops.size - n) by omega, Nat.add_sub_cancel_left, List.range'_append_1 (s := 0) (m := n) (n := ops.size - n) |>.symm]
          simp
        refine Nat.le_trans ?_ this
        rw [List.filter_eq_self.2 (fun i hi => by simp at hi; simp; omega)]
        simp
      exact tail_run hB hT _ n fuel listed a w' rfl (Nat.le_refl _) hn (Nat.le_trans hun hu) ⟨hI.lsize, fun j hj => ⟨fun h => (by
        rcases Nat.lt_or_ge j n with h' | h'
        · exact h'
        · rw [hno j h' hj] at h
          cases h), hdone j⟩⟩ hq
    intro fuel
    induction fuel with
    | zero =>
      intro listed a w' hu hno hD hI
      by_cases hd : ∃ j, j < n ∧ listed.getD j false = false
      · obtain ⟨i, _, hi⟩ := least listed hI.lsize hd
        obtain ⟨hun, o, ho, _⟩ := mem_ready.1 hi
        have := undone_set (ops := ops) (Array.getElem?_eq_some_iff.1 ho).1 hun
        omega
      · exact fin 0 listed a w' hu hno hI fun j hj => by
          cases h : listed.getD j false with
          | true => rfl
          | false => exact absurd ⟨j, hj, h⟩ hd
    | succ fuel ih =>
      intro listed a w' hu hno hD hI
      by_cases hd : ∃ j, j < n ∧ listed.getD j false = false
      · obtain ⟨i0, _, hi0⟩ := least listed hI.lsize hd
        refine ⟨fun hr => (by rw [hr] at hi0; cases hi0), fun i hi => ?_⟩
        obtain ⟨hun, o, ho, hall⟩ := mem_ready.1 hi
        have hil : i < ops.size := (Array.getElem?_eq_some_iff.1 ho).1
        have hin : i < n := by
          rcases Nat.lt_or_ge i n with h | h
          · exact h
          · obtain ⟨j, hj, hl⟩ := hd
            have := tail_done hB hT hD ho h hall (Nat.lt_of_lt_of_le hj h)
            rw [hl] at this
            cases this
        refine wpOp_mono (fun a'' w'' hI' => ih _ a'' w'' ?_ (fun j hj hjs => ?_) ?_ hI') (inv_step_n n hB htr hst hS hI hin hi)
        · have := undone_set (ops := ops) hil hun
          omega
        · rw [Array.getD_eq_getD_getElem?, Array.getElem?_setIfInBounds_ne (by omega), ← Array.getD_eq_getD_getElem?]
          exact hno j hj hjs
        · intro j oj hoj hl e he hb
          have hils : i < listed.size := by rw [hI.lsize]; exact hil
          have old : listed.getD e.on false = true → (listed.setIfInBounds i true).getD e.on false = true := fun h => by
            by_cases e2 : e.on = i
            · rw [e2]; simp [hils]
            · rw [Array.getD_eq_getD_getElem?, Array.getElem?_setIfInBounds_ne (Ne.symm e2), ← Array.getD_eq_getD_getElem?]; exact h
          by_cases e2 : j = i
          · subst e2
            obtain rfl : oj = o := Option.some.inj (hoj.symm.trans ho)
            exact old (hall e he hb)
          · rw [Array.getD_eq_getD_getElem?, Array.getElem?_setIfInBounds_ne (Ne.symm e2), ← Array.getD_eq_getD_getElem?] at hl
            exact old (hD j oj hoj hl e he hb)
      · exact fin (fuel + 1) listed a w' hu hno hI fun j hj => by
          cases h : listed.getD j false with
          | true => rfl
          | false => exact absurd ⟨j, hj, h⟩ hd
  refine main ops.size _ _ _ ?_ (fun j _ h => by simp [h]) (fun j o ho hl => by
    have := (Array.getElem?_eq_some_iff.1 ho).1
    simp [this] at hl) ⟨hG _, hJ, rfl, rfl, by simp, fun t _ => rfl, fun j o _ hl => ?_⟩
  · unfold undone
    refine Nat.le_trans (List.length_filter_le _ _) (by simp)
  · rcases Nat.lt_or_ge j ops.size with h | h <;> simp [h] at hl
end
end Go.Proofs.YtiijjpjkfiookaaDoor
