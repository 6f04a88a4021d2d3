/- THE WALK of a block of the digest: words for its memory. -/
import Derived.Test.YtbjlmodabiadfaaHShaWalk
import Derived.Test.YtbjlmodabiadfaaGMem
namespace Go.Proofs.Ytbjlmodabiadfaa
open Go.RowKit

def uv (x : Nat) : Value := .int .u32 (x : Int)
def Sha.St.vals (s : Sha.St) : List Value := s.list.map uv

/-- The first t words of the schedule, the rest noughts. -/
def SchedRel (w : World) (g : Nat) (T : TypeId) (l : List UInt8) (i : Value) (wr : World) : Prop :=
  ∃ t : Nat, t ≤ 64 ∧ i = .int .i64 t ∧ wr.rowIs g T 64 (fun j => uv ((Sha.sched l t).getD j 0)) ∧ Below w.heap.size w wr ∧ wr.heap.size = w.heap.size + 1

theorem sched_other (l : List UInt8) (t j : Nat) (h : j ≠ t) : (Sha.sched l (t + 1)).getD j 0 = (Sha.sched l t).getD j 0 := by
  simp only [Sha.sched, List.getD_eq_getElem?_getD]
  rcases Nat.lt_or_ge j t with h' | h'
  · rw [List.getElem?_append_left (by rw [Sha.length_sched]; exact h')]
  · rw [List.getElem?_append_right (by rw [Sha.length_sched]; exact h'), Sha.length_sched, List.getElem?_eq_none (by simp; omega), List.getElem?_eq_none (by rw [Sha.length_sched]; exact h')]
theorem sched_hit (l : List UInt8) (t : Nat) : (Sha.sched l (t + 1)).getD t 0 = Sha.next l (Sha.sched l t) t := Sha.sched_at l t (t + 1) (by omega)
theorem rowIs_set {w : World} {b : Nat} {t : TypeId} {n i : Nat} {f g : Nat → Value} {v : Value} (h : w.rowIs b t n f) (hv : v = g i) (ho : ∀ j, j < n → j ≠ i → f j = g j) : (w.setCell ⟨b, i, none⟩ v).rowIs b t n g :=
  (h.set i v).congr fun j hj => by
    by_cases e : j = i
    · rw [if_pos e, hv, e]
    · rw [if_neg e, ho j hj e]
theorem sched_step {w wr : World} {g : Nat} {T : TypeId} {l : List UInt8} {t : Nat} {v : Value} (hlt : t < 64) (hrow : wr.rowIs g T 64 (fun j => uv ((Sha.sched l t).getD j 0))) (hbel : Below w.heap.size w wr) (hsz : wr.heap.size = w.heap.size + 1) (hg : w.heap.size ≤ g)
    (hv : v = uv (Sha.next l (Sha.sched l t) t)) : SchedRel w g T l (.int .i64 ((t : Int) + 1)) (wr.setCell ⟨g, t, none⟩ v) :=
  ⟨t + 1, by omega, by go_num, rowIs_set hrow (by rw [hv, sched_hit]) (fun j _ hj => by rw [sched_other l t j hj]), hbel.setCell hg _, by simpa [World.setCell] using hsz⟩
theorem s0_int {x : Nat} (hx : x < 4294967296) : bits .xor .u32 (bits .xor .u32 (Sha.ror x 7 : Nat) (Sha.ror x 18 : Nat)) ((x : Int) / 8) = (Sha.s0 x : Nat) := by
  rw [u32_xor_nat _ _ (Sha.ror_lt hx) (Sha.ror_lt hx), show (x : Int) / (8 : Int) = ((x >>> 3 : Nat) : Int) by rw [Nat.shiftRight_eq_div_pow]; omega, u32_xor_nat _ _ (Sha.lt_xor (Sha.ror_lt hx) (Sha.ror_lt hx)) (Sha.lt_shr hx)]
  rfl
theorem s1_int {x : Nat} (hx : x < 4294967296) : bits .xor .u32 (bits .xor .u32 (Sha.ror x 17 : Nat) (Sha.ror x 19 : Nat)) ((x : Int) / 1024) = (Sha.s1 x : Nat) := by
  rw [u32_xor_nat _ _ (Sha.ror_lt hx) (Sha.ror_lt hx), show (x : Int) / (1024 : Int) = ((x >>> 10 : Nat) : Int) by rw [Nat.shiftRight_eq_div_pow]; omega, u32_xor_nat _ _ (Sha.lt_xor (Sha.ror_lt hx) (Sha.ror_lt hx)) (Sha.lt_shr hx)]
  rfl
theorem uv_eq {a : Int} {b : Nat} (h : a = (b : Int)) : Value.int .u32 a = uv b := by rw [h]; rfl

/-! ### the rounds -/
theorem big1_int {x : Nat} (hx : x < 4294967296) : bits .xor .u32 (bits .xor .u32 (Sha.ror x 6 : Nat) (Sha.ror x 11 : Nat)) (Sha.ror x 25 : Nat) = (Sha.big1 x : Nat) := by
  rw [u32_xor_nat _ _ (Sha.ror_lt hx) (Sha.ror_lt hx), u32_xor_nat _ _ (Sha.lt_xor (Sha.ror_lt hx) (Sha.ror_lt hx)) (Sha.ror_lt hx)]
  rfl
theorem big0_int {x : Nat} (hx : x < 4294967296) : bits .xor .u32 (bits .xor .u32 (Sha.ror x 2 : Nat) (Sha.ror x 13 : Nat)) (Sha.ror x 22 : Nat) = (Sha.big0 x : Nat) := by
  rw [u32_xor_nat _ _ (Sha.ror_lt hx) (Sha.ror_lt hx), u32_xor_nat _ _ (Sha.lt_xor (Sha.ror_lt hx) (Sha.ror_lt hx)) (Sha.ror_lt hx)]
  rfl
theorem ch_int {e f g : Nat} (he : e < 4294967296) (hf : f < 4294967296) (hg : g < 4294967296) : bits .xor .u32 (g : Int) (bits .and .u32 (e : Int) (bits .xor .u32 (f : Int) (g : Int))) = (Sha.ch e f g : Nat) := by
  rw [u32_xor_nat _ _ hf hg, u32_and_nat _ _ he (Sha.lt_xor hf hg), u32_xor_nat _ _ hg (Sha.lt_and (Sha.lt_xor hf hg))]
  rfl
theorem maj_int {a b c : Nat} (ha : a < 4294967296) (hb : b < 4294967296) (hc : c < 4294967296) : bits .xor .u32 (bits .xor .u32 (bits .and .u32 (a : Int) (b : Int)) (bits .and .u32 (a : Int) (c : Int))) (bits .and .u32 (b : Int) (c : Int)) = (Sha.maj a b c : Nat) := by
  rw [u32_and_nat _ _ ha hb, u32_and_nat _ _ ha hc, u32_and_nat _ _ hb hc, u32_xor_nat _ _ (Sha.lt_and hb) (Sha.lt_and hc), u32_xor_nat _ _ (Sha.lt_xor (Sha.lt_and hb) (Sha.lt_and hc)) (Sha.lt_and hc)]
  rfl
/-- Behind t rounds. -/
def RoundRel (w : World) (g0 g1 : Nat) (T0 T1 : TypeId) (s : Sha.St) (ws : List Nat) (i : Value) (wr : World) : Prop :=
  ∃ t : Nat, t ≤ 64 ∧ i = .int .i64 t ∧ wr.rowIs g1 T1 8 (fun j => uv ((Sha.rounds s ws t).list.getD j 0)) ∧ wr.rowIs g0 T0 64 (fun j => uv (ws.getD j 0)) ∧ Below w.heap.size w wr

theorem eight_new (w : World) (T : TypeId) (s : Sha.St) : (w.alloc (.cells #[.int .u32 (s.a : Int), .int .u32 (s.b : Int), .int .u32 (s.c : Int), .int .u32 (s.d : Int), .int .u32 (s.e : Int), .int .u32 (s.f : Int), .int .u32 (s.g : Int), .int .u32 (s.h : Int)] T)).rowIs w.heap.size T 8 (fun j => uv (s.list.getD j 0)) := by
  refine ⟨_, (MapKept.heap_alloc w _).1, rfl, fun i hi => ?_⟩
  match i, hi with
  | 0, _ => rfl
  | 1, _ => rfl
  | 2, _ => rfl
  | 3, _ => rfl
  | 4, _ => rfl
  | 5, _ => rfl
  | 6, _ => rfl
  | 7, _ => rfl
/-- 'copy(v[1:], v[:7])': every word one place on. -/
theorem run_copy_shift {P : Program} {T ty elem : TypeId} (hu : P.underlying T = some (.slice elem)) (hs : (P.info? elem).map (·.size) = some 1) {w : World} {g : Nat} {t : TypeId} {f : Nat → Value} (h : w.rowIs g t 8 f) (h1 : ∀ j, j < 8 → (f j).oneCell' = true) :
    ∃ w', (Builtin.copy_ #[T, T] ty #[.slice (some ⟨g, 1, none⟩) 7 7, .slice (some ⟨g, 0, none⟩) 7 8]).run P w = .ok (goInt 7) w' ∧ w'.rowIs g t 8 (fun j => if j = 0 then f 0 else f (j - 1)) ∧ (∀ k, k ≠ g → w'.heap[k]? = w.heap[k]?) ∧ w'.os = w.os ∧ w'.tape = w.tape ∧ w'.output = w.output ∧ w'.heap.size = w.heap.size := by
  have hrun := run_copy_row (P := P) w T T ty elem g 1 7 7 ⟨g, 0, none⟩ 7 8
  obtain ⟨c, hb, hn, hc⟩ := h
  have hf : ∀ j u, [f 0, f 1, f 2, f 3, f 4, f 5, f 6][j]? = some u → j < 7 ∧ u = f j := by
    intro j u hj
    match j, hj with
    | 0, hj => simp at hj; exact ⟨by omega, hj.symm⟩
    | 1, hj => simp at hj; exact ⟨by omega, hj.symm⟩
    | 2, hj => simp at hj; exact ⟨by omega, hj.symm⟩
    | 3, hj => simp at hj; exact ⟨by omega, hj.symm⟩
    | 4, hj => simp at hj; exact ⟨by omega, hj.symm⟩
    | 5, hj => simp at hj; exact ⟨by omega, hj.symm⟩
    | 6, hj => simp at hj; exact ⟨by omega, hj.symm⟩
    | j + 7, hj => simp at hj
  have hr := hrun c t [f 0, f 1, f 2, f 3, f 4, f 5, f 6] hu hs hb rfl (fun j v hj => by
    obtain ⟨hj7, rfl⟩ := hf j v hj
    rw [add_plain, Nat.zero_add]
    simp only [World.cell?]
    rw [hb]
    exact hc j (by omega)) (by simp [hn]) (fun v hv => by
    obtain ⟨j, hj⟩ := List.getElem?_of_mem hv
    obtain ⟨hj7, rfl⟩ := hf j v hj
    exact h1 j (by omega))
  refine ⟨_, hr, ⟨_, setRow_heap w g c _ t _ hb, by simp [hn], fun i hi => ?_⟩, fun k hk => setRow_other w g k _ hk, rfl, rfl, rfl, by simp [World.setRow]⟩
  have h0 := hc 0 (by omega)
  have hcl : c.toList.length = 8 := by simpa using hn
  rw [List.getElem?_toArray]
  match i, hi with
  | 0, _ =>
    rw [List.append_assoc, List.getElem?_append_left (by rw [List.length_take]; omega), List.getElem?_take]
    simpa using h0
  | i + 1, hi =>
    rw [List.append_assoc, List.getElem?_append_right (by rw [List.length_take]; omega), List.length_take, hcl, show i + 1 - Nat.min 1 8 = i from rfl, List.getElem?_append_left (by simp; omega)]
    match i, hi with
    | 0, _ => rfl
    | 1, _ => rfl
    | 2, _ => rfl
    | 3, _ => rfl
    | 4, _ => rfl
    | 5, _ => rfl
    | 6, _ => rfl

theorem step_copy_shift {P : Program} {ops : Array Oper} {o : Oper} {a : Act} {K : Act → World → Prop} {Q : Exit → Act → World → Prop} {E : Prop} (hgd : o.guard = none) (d s : Operand) {T elem : TypeId}
    (ho : o.op = .call { callee := .builtin .copy, args := #[d, s], argTypes := #[T, T] }) (hu : P.underlying T = some (.slice elem)) (hsz : (P.info? elem).map (·.size) = some 1)
    {w : World} {g : Nat} {t : TypeId} {f : Nat → Value} (hd : a.eval d = .slice (some ⟨g, 1, none⟩) 7 7) (hs : a.eval s = .slice (some ⟨g, 0, none⟩) 7 8) (hrow : w.rowIs g t 8 f) (h1 : ∀ j, j < 8 → (f j).oneCell' = true)
    (h : ∀ w', w'.rowIs g t 8 (fun j => if j = 0 then f 0 else f (j - 1)) → w.grownBy w' (some g) → w'.heap.size = w.heap.size → K (a.put o.dst (goInt 7)) w') :
    if Region.wanted o (yielded ops a.tmps) = true then Oper.wp P o a w K Q else E := by
  have hw : Region.wanted o (yielded ops a.tmps) = true := by simp [Region.wanted, hgd]
  rw [if_pos hw]
  obtain ⟨w', hrun, h2, h3, h4, h5, h6, h7⟩ := run_copy_shift (P := P) (ty := o.type) hu hsz hrow h1
  unfold Oper.wp execOp
  simp only [ho, resolve, invoke, builtin, Sem.run_bind, Sem.run_pure, Result.andThen_ok, List.map_toArray, List.map_cons, List.map_nil, hs, hd, hrun]
  exact h w' h2 ⟨h4, h5, h6, Nat.le_of_eq h7.symm, fun k _ hk => h3 k (fun e => hk (by rw [e]))⟩ h7

theorem rx_int {a b cc d e f g h kt wt : Nat} (he : e < 4294967296) (hf : f < 4294967296) (hg : g < 4294967296) :
    IntKind.u32.wrap (IntKind.u32.wrap (IntKind.u32.wrap (IntKind.u32.wrap ((h : Int) + bits .xor .u32 (bits .xor .u32 (Sha.ror e 6 : Nat) (Sha.ror e 11 : Nat)) (Sha.ror e 25 : Nat)) + bits .xor .u32 (g : Int) (bits .and .u32 (e : Int) (bits .xor .u32 (f : Int) (g : Int)))) + (kt : Int)) + (wt : Int)) = (Sha.rx ⟨a, b, cc, d, e, f, g, h⟩ kt wt : Nat) := by
  rw [big1_int he, ch_int he hf hg]
  simp only [IntKind.wrap_u32', Sha.rx]
  omega
theorem ry_int {a b cc d e f g h : Nat} (ha : a < 4294967296) (hb : b < 4294967296) (hc : cc < 4294967296) :
    IntKind.u32.wrap (bits .xor .u32 (bits .xor .u32 (Sha.ror a 2 : Nat) (Sha.ror a 13 : Nat)) (Sha.ror a 22 : Nat) + bits .xor .u32 (bits .xor .u32 (bits .and .u32 (a : Int) (b : Int)) (bits .and .u32 (a : Int) (cc : Int))) (bits .and .u32 (b : Int) (cc : Int))) = (Sha.ry ⟨a, b, cc, d, e, f, g, h⟩ : Nat) := by
  rw [big0_int ha, maj_int ha hb hc]
  simp only [IntKind.wrap_u32', Sha.ry]
  omega
theorem rx_lt (s : Sha.St) (k w : Nat) : Sha.rx s k w < 4294967296 := Nat.mod_lt _ (by omega)
theorem ry_lt (s : Sha.St) : Sha.ry s < 4294967296 := Nat.mod_lt _ (by omega)
theorem uv_one (x : Nat) : (uv x).oneCell' = true := rfl

theorem round_step {w w5 w2 : World} {g1 : Nat} {T0 T1 : TypeId} {s : Sha.St} {ws : List Nat} {t a b cc d e f g h X Y : Nat} (hlt : t < 64) (hg1 : g1 = w.heap.size + 1)
    (hrow : w2.rowIs g1 T1 8 (fun j => if j = 0 then uv ((⟨a, b, cc, d, e, f, g, h⟩ : Sha.St).list.getD 0 0) else uv ((⟨a, b, cc, d, e, f, g, h⟩ : Sha.St).list.getD (j - 1) 0))) (hgr : w5.drew.grownBy w2 (some g1))
    (hrow0 : w5.rowIs w.heap.size T0 64 (fun j => uv (ws.getD j 0))) (hbel : Below w.heap.size w w5)
    (hrd : Sha.rounds s ws (t + 1) = ⟨(X + Y) % 4294967296, a, b, cc, (d + X) % 4294967296, e, f, g⟩) :
    RoundRel w w.heap.size g1 T0 T1 s ws (.int .i64 ((t : Int) + 1)) ((w2.setCell ⟨g1, 0, none⟩ (.int .u32 (((X : Int) + Y) % 4294967296))).setCell ⟨g1, 4, none⟩ (.int .u32 (((d : Int) + X) % 4294967296))) := by
  subst hg1
  have hlt0 : w.heap.size < w5.drew.heap.size := hrow0.lt
  refine ⟨t + 1, by omega, by go_num, ((hrow.set 0 _).set 4 _).congr fun j hj => ?_, ?_, ?_⟩
  · rw [hrd]
    match j, hj with
    | 0, _ => exact uv_eq (b := (X + Y) % 4294967296) (by omega)
    | 1, _ => rfl
    | 2, _ => rfl
    | 3, _ => rfl
    | 4, _ => exact uv_eq (b := (d + X) % 4294967296) (by omega)
    | 5, _ => rfl
    | 6, _ => rfl
    | 7, _ => rfl
  · refine World.rowIs.setOther (World.rowIs.setOther (hrow0.of_block ?_) ?_ _) ?_ _
    · exact hgr.block w.heap.size hlt0 (by simp)
    · show w.heap.size ≠ w.heap.size + 1; omega
    · show w.heap.size ≠ w.heap.size + 1; omega
  · refine ((hbel.drew.grown hgr ?_ ?_).setCell ?_ _).setCell ?_ _
    · exact hbel.size
    · intro k hk; simp only [Option.some.injEq] at hk; omega
    · show w.heap.size ≤ w.heap.size + 1; omega
    · show w.heap.size ≤ w.heap.size + 1; omega

/-- Behind k of the eight sums. -/
def FinRel (w : World) (sb g1 : Nat) (T T1 : TypeId) (s v : Sha.St) (tl : List Value) (i : Value) (wr : World) : Prop :=
  ∃ k : Nat, k ≤ 8 ∧ i = .int .i64 k ∧ (∃ cs : Array Value, Blk wr sb T cs ∧ (∀ j, j < 8 → cs[j]? = some (uv (if j < k then (s.list.getD j 0 + v.list.getD j 0) % 4294967296 else s.list.getD j 0))) ∧ ∀ j, cs[8 + j]? = tl[j]?) ∧
    wr.rowIs g1 T1 8 (fun j => uv (v.list.getD j 0)) ∧ w.grownBy wr (some sb)
theorem fin_start {w wr : World} {sb g1 : Nat} {T T1 : TypeId} {s v : Sha.St} {tl : List Value} (hs : Blk w sb T (s.vals ++ tl).toArray) (hb : Below w.heap.size w wr) (hrow : wr.rowIs g1 T1 8 (fun j => uv (v.list.getD j 0))) : FinRel w sb g1 T T1 s v tl (.int .i64 0) wr := by
  refine ⟨0, by omega, rfl, ⟨_, hs.below hb hs.lt, fun j hj => ?_, fun j => ?_⟩, hrow, grown_below hb _⟩
  · rw [if_neg (by omega)]
    match j, hj with
    | 0, _ => rfl
    | 1, _ => rfl
    | 2, _ => rfl
    | 3, _ => rfl
    | 4, _ => rfl
    | 5, _ => rfl
    | 6, _ => rfl
    | 7, _ => rfl
  · rw [List.getElem?_toArray, List.getElem?_append_right (by simp [Sha.St.vals, Sha.St.list])]
    congr 1
    simp [Sha.St.vals, Sha.St.list]
theorem fin_step {w wr : World} {sb g1 k : Nat} {T T1 : TypeId} {s v : Sha.St} {tl : List Value} {cs : Array Value} (hk : k < 8) (hb : Blk wr sb T cs) (h1 : ∀ j, j < 8 → cs[j]? = some (uv (if j < k then (s.list.getD j 0 + v.list.getD j 0) % 4294967296 else s.list.getD j 0))) (h2 : ∀ j, cs[8 + j]? = tl[j]?)
    (hrow : wr.rowIs g1 T1 8 (fun j => uv (v.list.getD j 0))) (hg : w.grownBy wr (some sb)) (hne : g1 ≠ sb) {u : Value} (hu : u = uv ((s.list.getD k 0 + v.list.getD k 0) % 4294967296)) :
    FinRel w sb g1 T T1 s v tl (.int .i64 ((k : Int) + 1)) (wr.setCell ⟨sb, k, none⟩ u) := by
  refine ⟨k + 1, by omega, by go_num, ⟨_, hb.set k u, fun j hj => ?_, fun j => ?_⟩, hrow.setOther hne _, grown_set hg (.inl rfl) _⟩
  · rw [Array.getElem?_setIfInBounds]
    by_cases e : k = j
    · subst e
      have hlt : k < cs.size := (Array.getElem?_eq_some_iff.1 (h1 k hk)).1
      rw [if_pos rfl, if_pos hlt, if_pos (by omega), hu]
    · rw [if_neg e, h1 j hj]
      by_cases h : j < k
      · rw [if_pos h, if_pos (by omega)]
      · rw [if_neg h, if_neg (by omega)]
  · rw [Array.getElem?_setIfInBounds, if_neg (by omega), h2]
theorem fin_end {wr : World} {sb : Nat} {T : TypeId} {s v : Sha.St} {tl : List Value} {cs : Array Value} (hb : Blk wr sb T cs) (h1 : ∀ j, j < 8 → cs[j]? = some (uv (if j < 8 then (s.list.getD j 0 + v.list.getD j 0) % 4294967296 else s.list.getD j 0))) (h2 : ∀ j, cs[8 + j]? = tl[j]?) :
    Blk wr sb T ((Sha.add s v).vals ++ tl).toArray := by
  have e : cs = ((Sha.add s v).vals ++ tl).toArray := by
    apply Array.ext_getElem?
    intro i
    have e2 : ((Sha.add s v).vals ++ tl).toArray[i]? = ((Sha.add s v).vals ++ tl)[i]? := List.getElem?_toArray
    rw [e2]
    rcases Nat.lt_or_ge i 8 with h | h
    · rw [h1 i h, if_pos h]
      match i, h with
      | 0, _ => rfl
      | 1, _ => rfl
      | 2, _ => rfl
      | 3, _ => rfl
      | 4, _ => rfl
      | 5, _ => rfl
      | 6, _ => rfl
      | 7, _ => rfl
    · obtain ⟨j, rfl⟩ : ∃ j, i = 8 + j := ⟨i - 8, by omega⟩
      rw [h2, List.getElem?_append_right (by simp [Sha.St.vals, Sha.St.list])]
      congr 1
      simp [Sha.St.vals, Sha.St.list]
  rw [← e]
  exact hb

theorem fin_drew {w wr : World} {sb g1 : Nat} {T T1 : TypeId} {s v : Sha.St} {tl : List Value} {i : Value} (h : FinRel w sb g1 T T1 s v tl i wr) : FinRel w sb g1 T T1 s v tl i wr.drew := by
  obtain ⟨k, hk, hi, ⟨cs, hb, h1, h2⟩, hrow, hg⟩ := h
  exact ⟨k, hk, hi, ⟨cs, hb.drew, h1, h2⟩, hrow.drew, grown_drew hg⟩
end Go.Proofs.Ytbjlmodabiadfaa
