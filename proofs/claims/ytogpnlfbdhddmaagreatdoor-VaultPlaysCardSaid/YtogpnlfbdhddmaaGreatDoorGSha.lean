/- THE WALKS of the digest: turning, words. THE WALK of a block of the digest: words for its memory. THE WALK of a block of the digest. THE WALKS of the digest: where it begins, its constants, a new digest. THE WALK of (*sha.Hash).Write. THE WALK of (*sha.Hash).Sum, and of sha.Sum. THE WALK of sha.Sum. -/
import Derived.Test.YtogpnlfbdhddmaaGreatDoorRows
import Derived.Test.YtogpnlfbdhddmaaGreatDoorGMem
import Derived.Test.YtogpnlfbdhddmaaGreatDoorGPlain
import Derived.Deep.QuietTactic
import Derived.BigQuiet
import Derived.BigRegion
import Derived.Laws.BitsAllLaws
import Derived.Laws.BitsLemmas
import Derived.StillTailTactics
import Derived.Outline
import Derived.Great.BuildSlice
import Derived.Deep.MidRow
import Derived.Deep.LoopGhost
import Derived.Deep.RegionHeld3
import Derived.Deep.DeepCutAuto
import Derived.Laws.NewBlocks
namespace Go.Proofs.YtogpnlfbdhddmaaGreatDoor
open Go.RowKit

theorem mask31 {n : Int} (h1 : 1 ≤ n) (h2 : n ≤ 31) : bits .and .u64 (IntKind.u64.wrap (-n)) 31 = 32 - n := by
  have hw : IntKind.u64.wrap (-n) = ((18446744073709551616 - n.toNat : Nat) : Int) := by
    simp only [IntKind.wrap, IntKind.bits, IntKind.signed]
    simp
    omega
  have e := u64_and_nat (18446744073709551616 - n.toNat) 31 (by omega) (by omega)
  rw [nat_mask5] at e
  rw [hw, show (31 : Int) = ((31 : Nat) : Int) from rfl, e]
  omega
theorem cast_shl (x a : Nat) : (x : Int) * 2 ^ a % 4294967296 = ((x <<< a % 4294967296 : Nat) : Int) := by
  rw [Nat.shiftLeft_eq]; simp
theorem cast_shr (x a : Nat) : (x : Int) / 2 ^ a = ((x >>> a : Nat) : Int) := by
  rw [Nat.shiftRight_eq_div_pow]; simp
theorem ror_or {x a : Nat} (hx : x < 4294967296) : bits .or .u32 ((x : Int) * 2 ^ (32 - a) % 4294967296) ((x : Int) / 2 ^ a) = (Sha.ror x a : Nat) := by
  rw [cast_shl, cast_shr, u32_or_nat _ _ (Nat.mod_lt _ (by omega)) (Sha.lt_shr hx), Nat.or_comm]
  rfl
theorem rotl_any (x : Nat) (n : Int) (w : World) (hx : x < 4294967296) (h1 : 1 ≤ n) (h2 : n ≤ 31) :
    Calls Tryz.prog 228 #[.int .u32 (x : Int), .int .i64 (-n)] w fun e w' => e = .returned (.int .u32 (Sha.ror x n.toNat)) ∧ w = w' := by
  have hm := mask31 h1 h2
  go_enter Tryz.func228, Tryz.ntmps228
  go_wp2
  go_ret
  refine ⟨?_, rfl⟩
  have := ror_or (x := x) (a := n.toNat) hx
  rw [show 32 - n.toNat = (32 - n).toNat by omega] at this
  rw [← this, show (32 - (32 - n)).toNat = n.toNat by omega]
  rfl
theorem right_any (x : Nat) (n : Int) (w : World) (hx : x < 4294967296) (h1 : 1 ≤ n) (h2 : n ≤ 31) :
    Calls Tryz.prog 225 #[.int .u32 (x : Int), .int .i64 n] w fun e w' => e = .returned (.int .u32 (Sha.ror x n.toNat)) ∧ w' = w := by
  go_enter Tryz.func225, Tryz.ntmps225
  go_wp2_with fail
  refine (rotl_any x n w hx h1 h2).mono ?_
  rintro e w' ⟨rfl, rfl⟩
  go_wp2_with fail
  go_ret
  exact ⟨rfl, rfl⟩

theorem word_or (a b c d : UInt8) : bits .or .u32 (bits .or .u32 (bits .or .u32 ((a.toNat : Int) % 4294967296 * 16777216 % 4294967296) ((b.toNat : Int) % 4294967296 * 65536 % 4294967296)) ((c.toNat : Int) % 4294967296 * 256 % 4294967296)) ((d.toNat : Int) % 4294967296) = ((a.toNat * 16777216 + b.toNat * 65536 + c.toNat * 256 + d.toNat : Nat) : Int) := by
  have ha := a.toNat_lt
  have hb := b.toNat_lt
  have hc := c.toNat_lt
  have hd := d.toNat_lt
  rw [show (a.toNat : Int) % 4294967296 * 16777216 % 4294967296 = ((a.toNat * 16777216 : Nat) : Int) by omega, show (b.toNat : Int) % 4294967296 * 65536 % 4294967296 = ((b.toNat * 65536 : Nat) : Int) by omega, show (c.toNat : Int) % 4294967296 * 256 % 4294967296 = ((c.toNat * 256 : Nat) : Int) by omega, show (d.toNat : Int) % 4294967296 = (d.toNat : Int) by omega]
  rw [u32_or_nat _ _ (by omega) (by omega), nat_join 24 _ _ (by omega) (by omega), u32_or_nat _ _ (by omega) (by omega), nat_join 16 _ _ (by omega) (by omega), u32_or_nat _ _ (by omega) (by omega), nat_join 8 _ _ (by omega) (by omega)]
theorem word_any (b o n c : Nat) (x0 x1 x2 x3 : UInt8) (w : World) (hn : 4 ≤ n) (hc : n ≤ maxLen) (h0 : w.cell? ⟨b, o, none⟩ = some (.int .u8 x0.toNat)) (h1 : w.cell? ⟨b, o + 1, none⟩ = some (.int .u8 x1.toNat)) (h2 : w.cell? ⟨b, o + 2, none⟩ = some (.int .u8 x2.toNat)) (h3 : w.cell? ⟨b, o + 3, none⟩ = some (.int .u8 x3.toNat)) :
    Calls Tryz.prog 224 #[.slice (some ⟨b, o, none⟩) n c] w fun e w' => e = .returned (.int .u32 ((x0.toNat * 16777216 + x1.toNat * 65536 + x2.toNat * 256 + x3.toNat : Nat) : Int)) ∧ ∃ k, w' = w.drewN k := by
  unfold maxLen at hc
  have f0 : (0 : Int) < n := by omega
  have f1 : (1 : Int) < n := by omega
  have f2 : (2 : Int) < n := by omega
  have f3 : (3 : Int) < n := by omega
  go_enter Tryz.func224, Tryz.ntmps224
  go_wp2_with fail
  go_quiet (fail)
  go_wp2_with fail
  go_ret
  exact ⟨congrArg (fun z => Ending.returned (.int .u32 z)) (word_or x0 x1 x2 x3), _, rfl⟩
end Go.Proofs.YtogpnlfbdhddmaaGreatDoor
namespace Go.Proofs.YtogpnlfbdhddmaaGreatDoor
open Go.RowKit

def uv (x : Nat) : Value := .int .u32 (x : Int)
def Sha.St.vals (s : Sha.St) : List Value := s.list.map uv

/-- The first t words of the schedule, the rest noughts. -/
def SchedRel (w : World) (g : Nat) (T : TypeId) (l : List UInt8) (i : Value) (wr : World) : Prop :=
  ∃ t : Nat, t ≤ 64 ∧ i = .int .i64 t ∧ wr.rowIs g T 64 (fun j => uv ((Sha.sched l t).getD j 0)) ∧ Below w.heap.size w wr ∧ wr.heap.size = w.heap.size + 1

theorem sched_other (l : List UInt8) (t j : Nat) (h : j ≠ t) : (Sha.sched l (t + 1)).getD j 0 = (Sha.sched l t).getD j 0 := by
  simp only [Sha.sched, List.getD_eq_getElem?_getD]
  rcases Nat.lt_or_ge j t with h' | h'
  · rw [List.getElem?_append_left (by rw [Sha.length_sched]; exact h')]
  · rw [List.getElem?_append_right (by rw [Sha.length_sched]; exact h'), Sha.length_sched, List.getElem?_eq_none (by simp; omega), List.getElem?_eq_none (by rw [Sha.length_sched]; exact h')]
theorem sched_hit (l : List UInt8) (t : Nat) : (Sha.sched l (t + 1)).getD t 0 = Sha.next l (Sha.sched l t) t := Sha.sched_at l t (t + 1) (by omega)
theorem rowIs_set {w : World} {b : Nat} {t : TypeId} {n i : Nat} {f g : Nat → Value} {v : Value} (h : w.rowIs b t n f) (hv : v = g i) (ho : ∀ j, j < n → j ≠ i → f j = g j) : (w.setCell ⟨b, i, none⟩ v).rowIs b t n g :=
  (h.set i v).congr fun j hj => by
    by_cases e : j = i
    · rw [if_pos e, hv, e]
    · rw [if_neg e, ho j hj e]
theorem sched_step {w wr : World} {g : Nat} {T : TypeId} {l : List UInt8} {t : Nat} {v : Value} (hlt : t < 64) (hrow : wr.rowIs g T 64 (fun j => uv ((Sha.sched l t).getD j 0))) (hbel : Below w.heap.size w wr) (hsz : wr.heap.size = w.heap.size + 1) (hg : w.heap.size ≤ g)
    (hv : v = uv (Sha.next l (Sha.sched l t) t)) : SchedRel w g T l (.int .i64 ((t : Int) + 1)) (wr.setCell ⟨g, t, none⟩ v) :=
  ⟨t + 1, by omega, by go_num, rowIs_set hrow (by rw [hv, sched_hit]) (fun j _ hj => by rw [sched_other l t j hj]), hbel.setCell hg _, by simpa [World.setCell] using hsz⟩
theorem s0_int {x : Nat} (hx : x < 4294967296) : bits .xor .u32 (bits .xor .u32 (Sha.ror x 7 : Nat) (Sha.ror x 18 : Nat)) ((x : Int) / 8) = (Sha.s0 x : Nat) := by
  rw [u32_xor_nat _ _ (Sha.ror_lt hx) (Sha.ror_lt hx), show (x : Int) / (8 : Int) = ((x >>> 3 : Nat) : Int) by rw [Nat.shiftRight_eq_div_pow]; omega, u32_xor_nat _ _ (Sha.lt_xor (Sha.ror_lt hx) (Sha.ror_lt hx)) (Sha.lt_shr hx)]
  rfl
theorem s1_int {x : Nat} (hx : x < 4294967296) : bits .xor .u32 (bits .xor .u32 (Sha.ror x 17 : Nat) (Sha.ror x 19 : Nat)) ((x : Int) / 1024) = (Sha.s1 x : Nat) := by
  rw [u32_xor_nat _ _ (Sha.ror_lt hx) (Sha.ror_lt hx), show (x : Int) / (1024 : Int) = ((x >>> 10 : Nat) : Int) by rw [Nat.shiftRight_eq_div_pow]; omega, u32_xor_nat _ _ (Sha.lt_xor (Sha.ror_lt hx) (Sha.ror_lt hx)) (Sha.lt_shr hx)]
  rfl
theorem uv_eq {a : Int} {b : Nat} (h : a = (b : Int)) : Value.int .u32 a = uv b := by rw [h]; rfl

/-! ### the rounds -/
theorem big1_int {x : Nat} (hx : x < 4294967296) : bits .xor .u32 (bits .xor .u32 (Sha.ror x 6 : Nat) (Sha.ror x 11 : Nat)) (Sha.ror x 25 : Nat) = (Sha.big1 x : Nat) := by
  rw [u32_xor_nat _ _ (Sha.ror_lt hx) (Sha.ror_lt hx), u32_xor_nat _ _ (Sha.lt_xor (Sha.ror_lt hx) (Sha.ror_lt hx)) (Sha.ror_lt hx)]
  rfl
theorem big0_int {x : Nat} (hx : x < 4294967296) : bits .xor .u32 (bits .xor .u32 (Sha.ror x 2 : Nat) (Sha.ror x 13 : Nat)) (Sha.ror x 22 : Nat) = (Sha.big0 x : Nat) := by
  rw [u32_xor_nat _ _ (Sha.ror_lt hx) (Sha.ror_lt hx), u32_xor_nat _ _ (Sha.lt_xor (Sha.ror_lt hx) (Sha.ror_lt hx)) (Sha.ror_lt hx)]
  rfl
theorem ch_int {e f g : Nat} (he : e < 4294967296) (hf : f < 4294967296) (hg : g < 4294967296) : bits .xor .u32 (g : Int) (bits .and .u32 (e : Int) (bits .xor .u32 (f : Int) (g : Int))) = (Sha.ch e f g : Nat) := by
  rw [u32_xor_nat _ _ hf hg, u32_and_nat _ _ he (Sha.lt_xor hf hg), u32_xor_nat _ _ hg (Sha.lt_and (Sha.lt_xor hf hg))]
  rfl
theorem maj_int {a b c : Nat} (ha : a < 4294967296) (hb : b < 4294967296) (hc : c < 4294967296) : bits .xor .u32 (bits .xor .u32 (bits .and .u32 (a : Int) (b : Int)) (bits .and .u32 (a : Int) (c : Int))) (bits .and .u32 (b : Int) (c : Int)) = (Sha.maj a b c : Nat) := by
  rw [u32_and_nat _ _ ha hb, u32_and_nat _ _ ha hc, u32_and_nat _ _ hb hc, u32_xor_nat _ _ (Sha.lt_and hb) (Sha.lt_and hc), u32_xor_nat _ _ (Sha.lt_xor (Sha.lt_and hb) (Sha.lt_and hc)) (Sha.lt_and hc)]
  rfl
/-- Behind t rounds. -/
def RoundRel (w : World) (g0 g1 : Nat) (T0 T1 : TypeId) (s : Sha.St) (ws : List Nat) (i : Value) (wr : World) : Prop :=
  ∃ t : Nat, t ≤ 64 ∧ i = .int .i64 t ∧ wr.rowIs g1 T1 8 (fun j => uv ((Sha.rounds s ws t).list.getD j 0)) ∧ wr.rowIs g0 T0 64 (fun j => uv (ws.getD j 0)) ∧ Below w.heap.size w wr

theorem eight_new (w : World) (T : TypeId) (s : Sha.St) : (w.alloc (.cells #[.int .u32 (s.a : Int), .int .u32 (s.b : Int), .int .u32 (s.c : Int), .int .u32 (s.d : Int), .int .u32 (s.e : Int), .int .u32 (s.f : Int), .int .u32 (s.g : Int), .int .u32 (s.h : Int)] T)).rowIs w.heap.size T 8 (fun j => uv (s.list.getD j 0)) := by
  refine ⟨_, (MapKept.heap_alloc w _).1, rfl, fun i hi => ?_⟩
  match i, hi with
  | 0, _ => rfl
  | 1, _ => rfl
  | 2, _ => rfl
  | 3, _ => rfl
  | 4, _ => rfl
  | 5, _ => rfl
  | 6, _ => rfl
  | 7, _ => rfl
/-- 'copy(v[1:], v[:7])': every word one place on. -/
theorem run_copy_shift {P : Program} {T ty elem : TypeId} (hu : P.underlying T = some (.slice elem)) (hs : (P.info? elem).map (·.size) = some 1) {w : World} {g : Nat} {t : TypeId} {f : Nat → Value} (h : w.rowIs g t 8 f) (h1 : ∀ j, j < 8 → (f j).oneCell' = true) :
    ∃ w', (Builtin.copy_ #[T, T] ty #[.slice (some ⟨g, 1, none⟩) 7 7, .slice (some ⟨g, 0, none⟩) 7 8]).run P w = .ok (goInt 7) w' ∧ w'.rowIs g t 8 (fun j => if j = 0 then f 0 else f (j - 1)) ∧ (∀ k, k ≠ g → w'.heap[k]? = w.heap[k]?) ∧ w'.os = w.os ∧ w'.tape = w.tape ∧ w'.output = w.output ∧ w'.heap.size = w.heap.size := by
  have hrun := run_copy_row (P := P) w T T ty elem g 1 7 7 ⟨g, 0, none⟩ 7 8
  obtain ⟨c, hb, hn, hc⟩ := h
  have hf : ∀ j u, [f 0, f 1, f 2, f 3, f 4, f 5, f 6][j]? = some u → j < 7 ∧ u = f j := by
    intro j u hj
    match j, hj with
    | 0, hj => simp at hj; exact ⟨by omega, hj.symm⟩
    | 1, hj => simp at hj; exact ⟨by omega, hj.symm⟩
    | 2, hj => simp at hj; exact ⟨by omega, hj.symm⟩
    | 3, hj => simp at hj; exact ⟨by omega, hj.symm⟩
    | 4, hj => simp at hj; exact ⟨by omega, hj.symm⟩
    | 5, hj => simp at hj; exact ⟨by omega, hj.symm⟩
    | 6, hj => simp at hj; exact ⟨by omega, hj.symm⟩
    | j + 7, hj => simp at hj
  have hr := hrun c t [f 0, f 1, f 2, f 3, f 4, f 5, f 6] hu hs hb rfl (fun j v hj => by
    obtain ⟨hj7, rfl⟩ := hf j v hj
    rw [add_plain, Nat.zero_add]
    simp only [World.cell?]
    rw [hb]
    exact hc j (by omega)) (by simp [hn]) (fun v hv => by
    obtain ⟨j, hj⟩ := List.getElem?_of_mem hv
    obtain ⟨hj7, rfl⟩ := hf j v hj
    exact h1 j (by omega))
  refine ⟨_, hr, ⟨_, setRow_heap w g c _ t _ hb, by simp [hn], fun i hi => ?_⟩, fun k hk => setRow_other w g k _ hk, rfl, rfl, rfl, by simp [World.setRow]⟩
  have h0 := hc 0 (by omega)
  have hcl : c.toList.length = 8 := by simpa using hn
  rw [List.getElem?_toArray]
  match i, hi with
  | 0, _ =>
    rw [List.append_assoc, List.getElem?_append_left (by rw [List.length_take]; omega), List.getElem?_take]
    simpa using h0
  | i + 1, hi =>
    rw [List.append_assoc, List.getElem?_append_right (by rw [List.length_take]; omega), List.length_take, hcl, show i + 1 - Nat.min 1 8 = i from rfl, List.getElem?_append_left (by simp; omega)]
    match i, hi with
    | 0, _ => rfl
    | 1, _ => rfl
    | 2, _ => rfl
    | 3, _ => rfl
    | 4, _ => rfl
    | 5, _ => rfl
    | 6, _ => rfl

theorem step_copy_shift {P : Program} {ops : Array Oper} {o : Oper} {a : Act} {K : Act → World → Prop} {Q : Exit → Act → World → Prop} {E : Prop} (hgd : o.guard = none) (d s : Operand) {T elem : TypeId}
    (ho : o.op = .call { callee := .builtin .copy, args := #[d, s], argTypes := #[T, T] }) (hu : P.underlying T = some (.slice elem)) (hsz : (P.info? elem).map (·.size) = some 1)
    {w : World} {g : Nat} {t : TypeId} {f : Nat → Value} (hd : a.eval d = .slice (some ⟨g, 1, none⟩) 7 7) (hs : a.eval s = .slice (some ⟨g, 0, none⟩) 7 8) (hrow : w.rowIs g t 8 f) (h1 : ∀ j, j < 8 → (f j).oneCell' = true)
    (h : ∀ w', w'.rowIs g t 8 (fun j => if j = 0 then f 0 else f (j - 1)) → w.grownBy w' (some g) → w'.heap.size = w.heap.size → K (a.put o.dst (goInt 7)) w') :
    if Region.wanted o (yielded ops a.tmps) = true then Oper.wp P o a w K Q else E := by
  have hw : Region.wanted o (yielded ops a.tmps) = true := by simp [Region.wanted, hgd]
  rw [if_pos hw]
  obtain ⟨w', hrun, h2, h3, h4, h5, h6, h7⟩ := run_copy_shift (P := P) (ty := o.type) hu hsz hrow h1
  unfold Oper.wp execOp
  simp only [ho, resolve, invoke, builtin, Sem.run_bind, Sem.run_pure, Result.andThen_ok, List.map_toArray, List.map_cons, List.map_nil, hs, hd, hrun]
  exact h w' h2 ⟨h4, h5, h6, Nat.le_of_eq h7.symm, fun k _ hk => h3 k (fun e => hk (by rw [e]))⟩ h7

theorem rx_int {a b cc d e f g h kt wt : Nat} (he : e < 4294967296) (hf : f < 4294967296) (hg : g < 4294967296) :
    IntKind.u32.wrap (IntKind.u32.wrap (IntKind.u32.wrap (IntKind.u32.wrap ((h : Int) + bits .xor .u32 (bits .xor .u32 (Sha.ror e 6 : Nat) (Sha.ror e 11 : Nat)) (Sha.ror e 25 : Nat)) + bits .xor .u32 (g : Int) (bits .and .u32 (e : Int) (bits .xor .u32 (f : Int) (g : Int)))) + (kt : Int)) + (wt : Int)) = (Sha.rx ⟨a, b, cc, d, e, f, g, h⟩ kt wt : Nat) := by
  rw [big1_int he, ch_int he hf hg]
  simp only [IntKind.wrap_u32', Sha.rx]
  omega
theorem ry_int {a b cc d e f g h : Nat} (ha : a < 4294967296) (hb : b < 4294967296) (hc : cc < 4294967296) :
    IntKind.u32.wrap (bits .xor .u32 (bits .xor .u32 (Sha.ror a 2 : Nat) (Sha.ror a 13 : Nat)) (Sha.ror a 22 : Nat) + bits .xor .u32 (bits .xor .u32 (bits .and .u32 (a : Int) (b : Int)) (bits .and .u32 (a : Int) (cc : Int))) (bits .and .u32 (b : Int) (cc : Int))) = (Sha.ry ⟨a, b, cc, d, e, f, g, h⟩ : Nat) := by
  rw [big0_int ha, maj_int ha hb hc]
  simp only [IntKind.wrap_u32', Sha.ry]
  omega
theorem rx_lt (s : Sha.St) (k w : Nat) : Sha.rx s k w < 4294967296 := Nat.mod_lt _ (by omega)
theorem ry_lt (s : Sha.St) : Sha.ry s < 4294967296 := Nat.mod_lt _ (by omega)
theorem uv_one (x : Nat) : (uv x).oneCell' = true := rfl

theorem round_step {w w5 w2 : World} {g1 : Nat} {T0 T1 : TypeId} {s : Sha.St} {ws : List Nat} {t a b cc d e f g h X Y : Nat} (hlt : t < 64) (hg1 : g1 = w.heap.size + 1)
    (hrow : w2.rowIs g1 T1 8 (fun j => if j = 0 then uv ((⟨a, b, cc, d, e, f, g, h⟩ : Sha.St).list.getD 0 0) else uv ((⟨a, b, cc, d, e, f, g, h⟩ : Sha.St).list.getD (j - 1) 0))) (hgr : w5.drew.grownBy w2 (some g1))
    (hrow0 : w5.rowIs w.heap.size T0 64 (fun j => uv (ws.getD j 0))) (hbel : Below w.heap.size w w5)
    (hrd : Sha.rounds s ws (t + 1) = ⟨(X + Y) % 4294967296, a, b, cc, (d + X) % 4294967296, e, f, g⟩) :
    RoundRel w w.heap.size g1 T0 T1 s ws (.int .i64 ((t : Int) + 1)) ((w2.setCell ⟨g1, 0, none⟩ (.int .u32 (((X : Int) + Y) % 4294967296))).setCell ⟨g1, 4, none⟩ (.int .u32 (((d : Int) + X) % 4294967296))) := by
  subst hg1
  have hlt0 : w.heap.size < w5.drew.heap.size := hrow0.lt
  refine ⟨t + 1, by omega, by go_num, ((hrow.set 0 _).set 4 _).congr fun j hj => ?_, ?_, ?_⟩
  · rw [hrd]
    match j, hj with
    | 0, _ => exact uv_eq (b := (X + Y) % 4294967296) (by omega)
    | 1, _ => rfl
    | 2, _ => rfl
    | 3, _ => rfl
    | 4, _ => exact uv_eq (b := (d + X) % 4294967296) (by omega)
    | 5, _ => rfl
    | 6, _ => rfl
    | 7, _ => rfl
  · refine World.rowIs.setOther (World.rowIs.setOther (hrow0.of_block ?_) ?_ _) ?_ _
    · exact hgr.block w.heap.size hlt0 (by simp)
    · show w.heap.size ≠ w.heap.size + 1; omega
    · show w.heap.size ≠ w.heap.size + 1; omega
  · refine ((hbel.drew.grown hgr ?_ ?_).setCell ?_ _).setCell ?_ _
    · exact hbel.size
    · intro k hk; simp only [Option.some.injEq] at hk; omega
    · show w.heap.size ≤ w.heap.size + 1; omega
    · show w.heap.size ≤ w.heap.size + 1; omega

/-- Behind k of the eight sums. -/
def FinRel (w : World) (sb g1 : Nat) (T T1 : TypeId) (s v : Sha.St) (tl : List Value) (i : Value) (wr : World) : Prop :=
  ∃ k : Nat, k ≤ 8 ∧ i = .int .i64 k ∧ (∃ cs : Array Value, Blk wr sb T cs ∧ (∀ j, j < 8 → cs[j]? = some (uv (if j < k then (s.list.getD j 0 + v.list.getD j 0) % 4294967296 else s.list.getD j 0))) ∧ ∀ j, cs[8 + j]? = tl[j]?) ∧
    wr.rowIs g1 T1 8 (fun j => uv (v.list.getD j 0)) ∧ w.grownBy wr (some sb)
theorem fin_start {w wr : World} {sb g1 : Nat} {T T1 : TypeId} {s v : Sha.St} {tl : List Value} (hs : Blk w sb T (s.vals ++ tl).toArray) (hb : Below w.heap.size w wr) (hrow : wr.rowIs g1 T1 8 (fun j => uv (v.list.getD j 0))) : FinRel w sb g1 T T1 s v tl (.int .i64 0) wr := by
  refine ⟨0, by omega, rfl, ⟨_, hs.below hb hs.lt, fun j hj => ?_, fun j => ?_⟩, hrow, grown_below hb _⟩
  · rw [if_neg (by omega)]
    match j, hj with
    | 0, _ => rfl
    | 1, _ => rfl
    | 2, _ => rfl
    | 3, _ => rfl
    | 4, _ => rfl
    | 5, _ => rfl
    | 6, _ => rfl
    | 7, _ => rfl
  · rw [List.getElem?_toArray, List.getElem?_append_right (by simp [Sha.St.vals, Sha.St.list])]
    congr 1
    simp [Sha.St.vals, Sha.St.list]
theorem fin_step {w wr : World} {sb g1 k : Nat} {T T1 : TypeId} {s v : Sha.St} {tl : List Value} {cs : Array Value} (hk : k < 8) (hb : Blk wr sb T cs) (h1 : ∀ j, j < 8 → cs[j]? = some (uv (if j < k then (s.list.getD j 0 + v.list.getD j 0) % 4294967296 else s.list.getD j 0))) (h2 : ∀ j, cs[8 + j]? = tl[j]?)
    (hrow : wr.rowIs g1 T1 8 (fun j => uv (v.list.getD j 0))) (hg : w.grownBy wr (some sb)) (hne : g1 ≠ sb) {u : Value} (hu : u = uv ((s.list.getD k 0 + v.list.getD k 0) % 4294967296)) :
    FinRel w sb g1 T T1 s v tl (.int .i64 ((k : Int) + 1)) (wr.setCell ⟨sb, k, none⟩ u) := by
  refine ⟨k + 1, by omega, by go_num, ⟨_, hb.set k u, fun j hj => ?_, fun j => ?_⟩, hrow.setOther hne _, grown_set hg (.inl rfl) _⟩
  · rw [Array.getElem?_setIfInBounds]
    by_cases e : k = j
    · subst e
      have hlt : k < cs.size := (Array.getElem?_eq_some_iff.1 (h1 k hk)).1
      rw [if_pos rfl, if_pos hlt, if_pos (by omega), hu]
    · rw [if_neg e, h1 j hj]
      by_cases h : j < k
      · rw [if_pos h, if_pos (by omega)]
      · rw [if_neg h, if_neg (by omega)]
  · rw [Array.getElem?_setIfInBounds, if_neg (by omega), h2]
theorem fin_end {wr : World} {sb : Nat} {T : TypeId} {s v : Sha.St} {tl : List Value} {cs : Array Value} (hb : Blk wr sb T cs) (h1 : ∀ j, j < 8 → cs[j]? = some (uv (if j < 8 then (s.list.getD j 0 + v.list.getD j 0) % 4294967296 else s.list.getD j 0))) (h2 : ∀ j, cs[8 + j]? = tl[j]?) :
    Blk wr sb T ((Sha.add s v).vals ++ tl).toArray := by
  have e : cs = ((Sha.add s v).vals ++ tl).toArray := by
    apply Array.ext_getElem?
    intro i
    have e2 : ((Sha.add s v).vals ++ tl).toArray[i]? = ((Sha.add s v).vals ++ tl)[i]? := List.getElem?_toArray
    rw [e2]
    rcases Nat.lt_or_ge i 8 with h | h
    · rw [h1 i h, if_pos h]
      match i, h with
      | 0, _ => rfl
      | 1, _ => rfl
      | 2, _ => rfl
      | 3, _ => rfl
      | 4, _ => rfl
      | 5, _ => rfl
      | 6, _ => rfl
      | 7, _ => rfl
    · obtain ⟨j, rfl⟩ : ∃ j, i = 8 + j := ⟨i - 8, by omega⟩
      rw [h2, List.getElem?_append_right (by simp [Sha.St.vals, Sha.St.list])]
      congr 1
      simp [Sha.St.vals, Sha.St.list]
  rw [← e]
  exact hb

theorem fin_drew {w wr : World} {sb g1 : Nat} {T T1 : TypeId} {s v : Sha.St} {tl : List Value} {i : Value} (h : FinRel w sb g1 T T1 s v tl i wr) : FinRel w sb g1 T T1 s v tl i wr.drew := by
  obtain ⟨k, hk, hi, ⟨cs, hb, h1, h2⟩, hrow, hg⟩ := h
  exact ⟨k, hk, hi, ⟨cs, hb.drew, h1, h2⟩, hrow.drew, grown_drew hg⟩
end Go.Proofs.YtogpnlfbdhddmaaGreatDoor
namespace Go.Proofs.YtogpnlfbdhddmaaGreatDoor
open Go.RowKit
theorem zeros64 (w : World) (T : TypeId) : (w.alloc (.cells (Array.replicate 64 (.int .u32 0)) T)).rowIs w.heap.size T 64 (fun j => uv ((Sha.sched [] 0).getD j 0)) := by
  refine ⟨_, (MapKept.heap_alloc w _).1, by simp, fun i hi => ?_⟩
  rw [Array.getElem?_replicate, if_pos hi]
  simp [Sha.sched, uv]

theorem u32_size : (Tryz.prog.info? 68).map (·.size) = some 1 := by kernel_rfl
set_option maxRecDepth 100000 in
set_option maxHeartbeats 4000000 in
theorem block_any (sb kb bb bo n c : Nat) (s : Sha.St) (l : List UInt8) (tl : List Value) (T : TypeId) (w : World) (hn : 64 ≤ n) (hnc : n ≤ c) (hc : c ≤ maxLen) (hl : l.length = 64)
    (hs : Blk w sb T (s.vals ++ tl).toArray) (hk : ∀ i, i < 64 → w.cell? ⟨kb, i, none⟩ = some (uv (Sha.K.getD i 0))) (hkb : kb < w.heap.size)
    (hb : ∀ i (h : i < 64), w.cell? ⟨bb, bo + i, none⟩ = some (.int .u8 ((l[i]'(by omega)).toNat : Int))) (hbb : bb < w.heap.size) (hok : s.ok) :
    Calls Tryz.prog 205 #[.pointer (some ⟨sb, 0, none⟩), .pointer (some ⟨kb, 0, none⟩), .slice (some ⟨bb, bo, none⟩) n c] w fun e w' => e = .returned (.tuple #[]) ∧ Blk w' sb T ((Sha.block s l).vals ++ tl).toArray ∧ w.grownBy w' (some sb) := by
  unfold maxLen at hc
  go_enter Tryz.func205, Tryz.ntmps205
  go_wp2_with fail
  go_loopw [17] (fun i wr => SchedRel w w.heap.size 258 l i wr) (fun i _ => 64 - (intOf i).toNat)
  case atStart => exact ⟨0, by omega, rfl, zeros64 w _, (Below.refl _ _).alloc (Nat.le_refl _) _, by simp⟩
  case round =>
    obtain ⟨t, ht, rfl, hrow, hbel, hsize⟩ := hrel
    by_cases hlt : t < 64
    · by_cases h16 : t < 16
      · have hw : ∀ j (hj : j < 4), wr.cell? ⟨bb, bo + (4 * t + j), none⟩ = some (.int .u8 ((l[4 * t + j]'(by omega)).toNat : Int)) := fun j hj =>
          (hbel.cell (p := ⟨bb, bo + (4 * t + j), none⟩) hbb).trans (hb (4 * t + j) (by omega))
        have h0 := hw 0 (by omega)
        have h1 := hw 1 (by omega)
        have h2 := hw 2 (by omega)
        have h3 := hw 3 (by omega)
        rw [← Nat.add_assoc] at h0 h1 h2 h3
        rw [Nat.add_zero] at h0
        have hct := hrow.cell (i := t) hlt
        have hft := hrow.frozen t
        have HROW := Lib.hid hrow
        have HK := Lib.hid hk
        have HB := Lib.hid hb
        clear hrow hw hk hb
        go_wp2_with fail
        refine (word_any bb (bo + 4 * t) (n - 4 * t) (c - 4 * t) _ _ _ _ wr (by omega) (by unfold maxLen; omega) h0 h1 h2 h3).mono ?_
        rintro e w2 ⟨rfl, q, rfl⟩
        go_wp2_with fail
        go_roundw
        case rel =>
          refine sched_step hlt (rowIs_drewN HROW.out _) (below_drewN hbel _) hsize (Nat.le_refl _) (uv_eq ?_)
          rw [show Sha.next l (Sha.sched l t) t = Sha.word l t from if_pos h16]
          unfold Sha.word
          simp only [List.getD_eq_getElem?_getD]
          rw [List.getElem?_eq_getElem (by omega), List.getElem?_eq_getElem (by omega), List.getElem?_eq_getElem (by omega), List.getElem?_eq_getElem (by omega)]
          rfl
        case measure => simp [intOf]; omega
      · have c16 := hrow.cell (i := t - 16) (by omega)
        have c15 := hrow.cell (i := t - 15) (by omega)
        have c7 := hrow.cell (i := t - 7) (by omega)
        have c2 := hrow.cell (i := t - 2) (by omega)
        have hct := hrow.cell (i := t) hlt
        have hft := hrow.frozen t
        have b15 := Sha.sched_lt l t (t - 15)
        have b2 := Sha.sched_lt l t (t - 2)
        have b16 := Sha.sched_lt l t (t - 16)
        have b7 := Sha.sched_lt l t (t - 7)
        have HNX : Hid (Sha.next l (Sha.sched l t) t = ((Sha.sched l t).getD (t - 16) 0 + Sha.s0 ((Sha.sched l t).getD (t - 15) 0) + (Sha.sched l t).getD (t - 7) 0 + Sha.s1 ((Sha.sched l t).getD (t - 2) 0)) % 4294967296) := if_neg h16
        generalize (Sha.sched l t).getD (t - 15) 0 = x at c15 b15 HNX
        generalize (Sha.sched l t).getD (t - 2) 0 = y at c2 b2 HNX
        generalize (Sha.sched l t).getD (t - 16) 0 = u at c16 b16 HNX
        generalize (Sha.sched l t).getD (t - 7) 0 = v at c7 b7 HNX
        generalize hz : (Sha.sched l t).getD t 0 = z at hct
        unfold uv at c15 c2 c16 c7 hct
        have HROW := Lib.hid hrow
        have HK := Lib.hid hk
        have HB := Lib.hid hb
        clear hrow hk hb hz
        go_wp2_with fail
        go_quiet (fail)
        go_wp2_with fail
        have g1 : IntKind.i64.wrap ((t : Int) - 16) = (t : Int) - 16 := IntWalk.i64_in _ (by omega)
        have g2 : (0 : Int) ≤ (t : Int) - 16 := by omega
        have g2' : (16 : Int) ≤ (t : Int) := by omega
        have g3 : (t : Int) - 16 < 64 := by omega
        have g4 : ((t : Int) - 16).toNat = t - 16 := by omega
        have g5 : IntKind.i64.wrap ((t : Int) - 7) = (t : Int) - 7 := IntWalk.i64_in _ (by omega)
        have g6 : (0 : Int) ≤ (t : Int) - 7 := by omega
        have g6' : (7 : Int) ≤ (t : Int) := by omega
        have g7 : (t : Int) - 7 < 64 := by omega
        have g8 : ((t : Int) - 7).toNat = t - 7 := by omega
        have cw : ∀ d o u a, ({ heap := wr.heap, tape := wr.tape, drawn := d, os := o, output := u } : World).cell? a = wr.cell? a := fun _ _ _ _ => rfl
        go_still_tail 28, (by kernel_rfl)
        still_call (right_any x 7 _ b15 (by decide) (by decide))
        repeat still_step
        still_call (right_any x 18 _ b15 (by decide) (by decide))
        repeat still_step
        still_call (right_any y 17 _ b2 (by decide) (by decide))
        repeat still_step
        still_call (right_any y 19 _ b2 (by decide) (by decide))
        repeat still_step
        refine wpStill_nil ?_
        clear cw g1 g4 g5 g8
        change wpList _ _ _ _ _ (wr.drewN _).drew
        go_wp2_with fail
        go_roundw
        case rel =>
          refine sched_step hlt (rowIs_drewN HROW.out _) (below_drewN hbel _) hsize (Nat.le_refl _) (uv_eq ?_)
          rw [HNX.out, s0_int b15, s1_int b2]
          omega
        case measure => simp [intOf]; omega
    · obtain rfl : t = 64 := by omega
      have hws := hrow
      generalize hwsd : Sha.sched l 64 = ws at hws
      have HWSD := Lib.hid hwsd
      have hg0 : wr.heap.size = w.heap.size + 1 := hsize
      have hsb : ∀ i, wr.cell? ⟨sb, i, none⟩ = (s.vals ++ tl).toArray[i]? := fun i => (hbel.cell (p := ⟨sb, i, none⟩) hs.lt).trans (hs.cell i)
      have s0 := hsb 0
      have s1 := hsb 1
      have s2 := hsb 2
      have s3 := hsb 3
      have s4 := hsb 4
      have s5 := hsb 5
      have s6 := hsb 6
      have s7 := hsb 7
      simp [Sha.St.vals, Sha.St.list, uv] at s0 s1 s2 s3 s4 s5 s6 s7
      have HROW := Lib.hid hrow
      have HK := Lib.hid hk
      have HB := Lib.hid hb
      clear hrow hk hb hws hsb hwsd
      go_wp2_with fail
      clear s0 s1 s2 s3 s4 s5 s6 s7
      rw [show ((64 : Nat) : Int) = (64 : Int) from rfl]
      go_loopw [70] (fun i wr => RoundRel w w.heap.size (w.heap.size + 1) 258 254 s ws i wr) (fun i _ => 64 - (intOf i).toNat)
      case atStart =>
        refine ⟨0, by omega, rfl, ?_, (HROW.out.alloc _).congr fun j _ => by rw [HWSD.out], hbel.alloc hbel.size _⟩
        have := eight_new wr 254 s
        rw [hsize] at this
        exact this
      case round =>
        clear hbel hg0 hsize HROW
        obtain ⟨t, ht, rfl, hrow, hrow0, hbel⟩ := hrel
        by_cases hlt : t < 64
        · have hok2 := Sha.rounds_ok hok ws t
          have hrd : Sha.rounds s ws (t + 1) = Sha.rnd (Sha.rounds s ws t) (Sha.K.getD t 0) (ws.getD t 0) := rfl
          have hkt : wr.cell? ⟨kb, t, none⟩ = some (.int .u32 (Sha.K.getD t 0 : Nat)) := (hbel.cell (p := ⟨kb, t, none⟩) hkb).trans (HK.out t hlt)
          have hwt : wr.cell? ⟨w.heap.size, t, none⟩ = some (.int .u32 (ws.getD t 0 : Nat)) := hrow0.cell hlt
          have hkl := Sha.K_lt t
          have hwl : ws.getD t 0 < 4294967296 := by rw [← HWSD.out]; exact Sha.sched_lt l 64 t
          generalize Sha.rounds s ws t = st at hrow hok2 hrd
          generalize Sha.K.getD t 0 = kt at hkt hkl hrd
          generalize ws.getD t 0 = wt at hwt hwl hrd
          obtain ⟨a, b, cc, d, e, f, g, h⟩ := st
          obtain ⟨ha, hb', hc', hd, he, hf, hg, hh⟩ := hok2
          have v0 : wr.cell? ⟨w.heap.size + 1, 0, none⟩ = some (.int .u32 (a : Int)) := hrow.cell (by omega)
          have v1 : wr.cell? ⟨w.heap.size + 1, 1, none⟩ = some (.int .u32 (b : Int)) := hrow.cell (by omega)
          have v2 : wr.cell? ⟨w.heap.size + 1, 2, none⟩ = some (.int .u32 (cc : Int)) := hrow.cell (by omega)
          have v4 : wr.cell? ⟨w.heap.size + 1, 4, none⟩ = some (.int .u32 (e : Int)) := hrow.cell (by omega)
          have v5 : wr.cell? ⟨w.heap.size + 1, 5, none⟩ = some (.int .u32 (f : Int)) := hrow.cell (by omega)
          have v6 : wr.cell? ⟨w.heap.size + 1, 6, none⟩ = some (.int .u32 (g : Int)) := hrow.cell (by omega)
          have v7 : wr.cell? ⟨w.heap.size + 1, 7, none⟩ = some (.int .u32 (h : Int)) := hrow.cell (by omega)
          have HROW := Lib.hid hrow
          have HROW0 := Lib.hid hrow0
          have HRD := Lib.hid hrd
          have g64 : (t : Int) < 64 := by omega
          have cw : ∀ d o u a, ({ heap := wr.heap, tape := wr.tape, drawn := d, os := o, output := u } : World).cell? a = wr.cell? a := fun _ _ _ _ => rfl
          clear hrow hrow0 hrd
          go_wp2_with fail
          go_quiet (fail)
          go_wp2_with fail
          go_still_tail 32, (by kernel_rfl)
          still_call (right_any e 6 _ he (by decide) (by decide))
          repeat still_step
          still_call (right_any e 11 _ he (by decide) (by decide))
          repeat still_step
          still_call (right_any e 25 _ he (by decide) (by decide))
          repeat still_step
          refine wpStill_nil ?_
          change wpList _ _ _ _ _ (wr.drewN _).drew
          go_wp2_with fail
          go_still_tail 24, (by kernel_rfl)
          still_call (right_any a 2 _ ha (by decide) (by decide))
          repeat still_step
          still_call (right_any a 13 _ ha (by decide) (by decide))
          repeat still_step
          still_call (right_any a 22 _ ha (by decide) (by decide))
          repeat still_step
          refine wpStill_nil ?_
          change wpList _ _ _ _ _ (wr.drewN _).drew.drew
          clear cw
          go_wp2_with fail
          rw [rx_int (a := a) (b := b) (cc := cc) (d := d) he hf hg, ry_int (d := d) (e := e) (f := f) (g := g) (h := h) ha hb' hc']
          have hXl := rx_lt ⟨a, b, cc, d, e, f, g, h⟩ kt wt
          have hYl := ry_lt ⟨a, b, cc, d, e, f, g, h⟩
          have hrnd : Sha.rnd ⟨a, b, cc, d, e, f, g, h⟩ kt wt = ⟨(Sha.rx ⟨a, b, cc, d, e, f, g, h⟩ kt wt + Sha.ry ⟨a, b, cc, d, e, f, g, h⟩) % 4294967296, a, b, cc, (d + Sha.rx ⟨a, b, cc, d, e, f, g, h⟩ kt wt) % 4294967296, e, f, g⟩ := rfl
          generalize Sha.rx ⟨a, b, cc, d, e, f, g, h⟩ kt wt = X at hXl hrnd ⊢
          generalize Sha.ry ⟨a, b, cc, d, e, f, g, h⟩ = Y at hYl hrnd ⊢
          have HRND := Lib.hid hrnd
          refine name_world fun w5 e1 e2 e3 e4 => ?_
          have r1 : w5.rowIs (w.heap.size + 1) 254 8 _ := rowIs_heap HROW.out e1
          have r0 : w5.rowIs w.heap.size 258 64 _ := rowIs_heap HROW0.out e1
          have b5 := below_heap hbel (w' := w5) e1 e2 e3 e4
          have R1 := Lib.hid r1
          have R0 := Lib.hid r0
          have B5 := Lib.hid b5
          clear e1 e2 e3 e4 r1 r0 b5 hbel hrnd v0 v1 v2 v4 v5 v6 v7 hkt hwt g64
          go_region_law (refine step_copy_shift rfl (.tmp 133) (.tmp 134) rfl Tryz.underlying275 u32_size rfl rfl R1.out.drew (fun j _ => uv_one _) ?_; intro w2 hrow2 hgr2 hsz2)
          have k4 : w2.cell? ⟨w.heap.size + 1, 4, none⟩ = some (.int .u32 (d : Int)) := hrow2.cell (by omega)
          have k0 : w2.cell? ⟨w.heap.size + 1, 0, none⟩ = some (.int .u32 (a : Int)) := hrow2.cell (by omega)
          have f0 := hrow2.frozen 0
          have f4 := hrow2.frozen 4
          have HROW2 := Lib.hid hrow2
          have HGR2 := Lib.hid hgr2
          clear hrow2 hgr2 hsz2
          go_wp2_with fail
          go_roundw
          case rel => exact round_step hlt rfl HROW2.out HGR2.out R0.out B5.out (by rw [HRD.out, HRND.out])
          case measure => simp [intOf]; omega
        · obtain rfl : t = 64 := by omega
          go_wp2_with fail
          have hfin : Sha.block s l = Sha.add s (Sha.rounds s ws 64) := by unfold Sha.block; rw [HWSD.out]
          have HFIN := Lib.hid hfin
          generalize Sha.rounds s ws 64 = v at hrow HFIN
          have hst := fin_start hs hbel hrow
          clear hfin hrow hrow0 hbel HWSD HK HB
          go_loopw [146] (fun i wr => FinRel w sb (w.heap.size + 1) T 254 s v tl i wr) (fun i _ => 8 - (intOf i).toNat)
          case atStart => exact hst
          case round =>
            clear hst
            obtain ⟨k, hk8, rfl, ⟨cs, hblk, h1, h2⟩, hrow, hg⟩ := hrel
            have hsw := hs.lt
            by_cases hlk : k < 8
            · have d0 : wr.cell? ⟨sb, k, none⟩ = some (.int .u32 (s.list.getD k 0 : Nat)) := by
                rw [hblk.cell, h1 k hlk, if_neg (Nat.lt_irrefl _)]; rfl
              have d1 : wr.cell? ⟨w.heap.size + 1, k, none⟩ = some (.int .u32 (v.list.getD k 0 : Nat)) := hrow.cell hlk
              have d2 := hblk.frozen k
              have HST := Lib.hid (fin_step (w := w) (u := .int .u32 (((s.list.getD k 0 : Nat) + (v.list.getD k 0 : Nat) : Int) % 4294967296)) hlk hblk h1 h2 hrow hg (by omega) (uv_eq (by omega)))
              generalize s.list.getD k 0 = x at d0 HST
              generalize v.list.getD k 0 = y at d1 HST
              clear hblk h1 h2 hrow hg hs hok HFIN
              go_wp2_with fail
              go_region
              go_wp2_with fail
              go_roundw
              case rel => exact fin_drew HST.out
              case measure => simp [intOf]; omega
            · obtain rfl : k = 8 := by omega
              have HE := Lib.hid (fin_end hblk h1 h2)
              clear h1 h2 hs hok hblk hrow
              go_wp2_with fail
              go_end0
              exact ⟨rfl, by rw [HFIN.out]; exact HE.out, hg⟩
end Go.Proofs.YtogpnlfbdhddmaaGreatDoor
namespace Go.Proofs.YtogpnlfbdhddmaaGreatDoor
open Go.RowKit

theorem start_walk (w : World) :
    Calls Tryz.prog 203 #[] w fun e w' => e = .returned (.agg #[.int .u32 1779033703, .int .u32 3144134277, .int .u32 1013904242, .int .u32 2773480762, .int .u32 1359893119, .int .u32 2600822924, .int .u32 528734635, .int .u32 1541459225]) ∧ Below w.heap.size w w' := by
  go_enter Tryz.func203, Tryz.ntmps203
  go_wp2
  exact bodyPost_ret (v := .agg #[.int .u32 1779033703, .int .u32 3144134277, .int .u32 1013904242, .int .u32 2773480762, .int .u32 1359893119, .int .u32 2600822924, .int .u32 528734635, .int .u32 1541459225]) (by simp [results, Tryz.results203, go_sem]) rfl ⟨rfl, (Below.refl _ _).alloc (Nat.le_refl _) _⟩
/-- The constants as cells. -/
def KI : List Int := Sha.K.map Int.ofNat
def KC : Array Value := (KI.map (Value.int .u32)).toArray
theorem KC_size : KC.size = 64 := by simp [KC, KI, Sha.length_K]
theorem KC_at (i : Nat) (h : i < 64) : KC[i]? = some (uv (Sha.K.getD i 0)) := by
  have hl : i < Sha.K.length := by rw [Sha.length_K]; exact h
  simp [KC, KI, uv, hl]
theorem KC_one : KC.all (·.oneCell') = true := by
  unfold KC
  refine all_oneCell_toArray fun v hv => ?_
  obtain ⟨n, _, rfl⟩ := List.mem_map.1 hv
  rfl
theorem below_setRow {B : Nat} {a w : World} (h : Below B a w) {g : Nat} (hg : B ≤ g) (cs : Array Value) : Below B a (w.setRow g cs) :=
  ⟨h.os, h.tape, h.output, by simpa using h.size, fun k hk => (setRow_other w g k cs (by omega)).trans (h.block k hk)⟩
set_option maxHeartbeats 1000000 in
set_option maxRecDepth 100000 in
theorem words_walk (w : World) :
    Calls Tryz.prog 204 #[] w fun e w' => e = .returned (.agg KC) ∧ Below w.heap.size w w' := by
  go_enter Tryz.func204, Tryz.ntmps204
  go_wp2_with (first
    | (refine wpList_buildFlatArr rfl 258 68 64 _ rfl .u32 KI Tryz.underlying258 (by kernel_rfl) (by kernel_rfl) (by kernel_rfl) ?_)
    | (refine wpList_plain rfl fun K hK => ?_; refine wp_store_row 258 _ _ rfl w.heap.size KC rfl rfl 258 _ (heap_alloc_new w _) (by rw [KC_size]; kernel_rfl) (by rw [KC_size]; simp) KC_one (hK _ _ ?_); clear hK K))
  exact bodyPost_ret (v := .agg KC) (results_cell_row rfl _ _ w.heap.size 258 KC (0, 0) (.array 64 68) rfl (setRow_heap _ _ _ _ _ _ (heap_alloc_new w _)) Tryz.underlying258 rfl (by rw [KC_size]; kernel_rfl)) rfl ⟨rfl, below_setRow ((Below.refl _ _).alloc (Nat.le_refl _) _) (Nat.le_refl _) _⟩

/-- A digest in the making: the text so far is l; what does not fill a block lies in a block of X. -/
def HashAt (w : World) (hb : Nat) (X : Nat → Prop) (l : List UInt8) (q : Nat) : Prop :=
  ∃ A n c, Blk w hb 257 ((Sha.run Sha.start l).vals ++ [Value.slice A n c, Value.int .i64 (q : Int)]).toArray ∧ Row w 0 1 A n c (bv (Sha.left l)) ∧ n = l.length % 64 ∧ ∀ ad, A = some ad → X ad.block ∧ ad.block ≠ hb
section
variable {w w' : World} {hb q : Nat} {X X' : Nat → Prop} {l : List UInt8}
theorem HashAt.lt (h : HashAt w hb X l q) : hb < w.heap.size := by
  obtain ⟨_, _, _, h, _⟩ := h
  exact h.lt
theorem HashAt.grew {S : Nat → Prop} (h : HashAt w hb X l q) (hg : Grew S w w') (h1 : ¬ S hb) (h2 : ∀ k, X k → ¬ S k) : HashAt w' hb X l q := by
  obtain ⟨A, n, c, hb1, hr, hn, ha⟩ := h
  exact ⟨A, n, c, hb1.grew hg h1, hr.grew hg (fun ad e => h2 _ (ha ad e).1), hn, ha⟩
theorem HashAt.alloc (h : HashAt w hb X l q) (o : Obj) : HashAt (w.alloc o) hb X l q := by
  obtain ⟨A, n, c, hb1, hr, hn, ha⟩ := h
  exact ⟨A, n, c, hb1.alloc o, hr.alloc o, hn, ha⟩
theorem HashAt.mono (h : HashAt w hb X l q) (hx : ∀ k, X k → X' k) : HashAt w hb X' l q := by
  obtain ⟨A, n, c, hb1, hr, hn, ha⟩ := h
  exact ⟨A, n, c, hb1, hr, hn, fun ad e => ⟨hx _ (ha ad e).1, (ha ad e).2⟩⟩
end

set_option maxHeartbeats 1000000 in
theorem New_any (w : World) :
    Calls Tryz.prog 164 #[] w fun e w' => e = .returned (.pointer (some ⟨w'.heap.size - 1, 0, none⟩)) ∧ (∀ X, HashAt w' (w'.heap.size - 1) X [] 0) ∧ Below w.heap.size w w' ∧ w.heap.size < w'.heap.size := by
  go_enter Tryz.func164, Tryz.ntmps164
  go_wp2_with fail
  refine (start_walk _).mono ?_
  rintro e w1 ⟨rfl, hb1⟩
  go_wp2_with fail
  go_ret
  refine ⟨by simp, fun X => ⟨none, 0, 0, ?_, Row.nil_ _ _ _, rfl, fun ad e => by cases e⟩, ?_, ?_⟩
  · have := Blk.new w1 257 ((Sha.run Sha.start []).vals ++ [Value.slice none 0 0, Value.int .i64 ((0 : Nat) : Int)]).toArray
    have e : (w1.alloc (.cells ((Sha.run Sha.start []).vals ++ [Value.slice none 0 0, Value.int .i64 ((0 : Nat) : Int)]).toArray 257)).heap.size - 1 = w1.heap.size := by simp
    rw [← e] at this
    exact this
  · exact hb1.alloc hb1.size _
  · have := hb1.size
    simp
    omega
end Go.Proofs.YtogpnlfbdhddmaaGreatDoor
namespace Go.Proofs.YtogpnlfbdhddmaaGreatDoor
open Go.RowKit

def hcells (s : Sha.St) (x y : Value) : Array Value := (s.vals ++ [x, y]).toArray
theorem hc8 (s : Sha.St) (x y : Value) : (hcells s x y)[8]? = some x := rfl
theorem hc9 (s : Sha.St) (x y : Value) : (hcells s x y)[9]? = some y := rfl
theorem hset8 (s : Sha.St) (x y z : Value) : (hcells s x y).setIfInBounds 8 z = hcells s z y := rfl
theorem hset9 (s : Sha.St) (x y z : Value) : (hcells s x y).setIfInBounds 9 z = hcells s x z := rfl

/-- Blocks of a digest's own. -/
def hashOwn (hb : Nat) (Y : Nat → Prop) (k : Nat) : Prop := k = hb ∨ Y k
/-- Behind j blocks of the text t. -/
def InRel (w : World) (hb kb : Nat) (Y : Nat → Prop) (s : Sha.St) (t : List UInt8) (cnt : Value) (g : Nat) (wr : World) : Prop :=
  ∃ (j : Nat) (A : Option Addr) (n c : Nat), g + j = t.length / 64 ∧ n + 64 * j = t.length ∧ Blk wr hb 257 (hcells (Sha.blocks s t j) (.slice A n c) cnt) ∧ Row wr 0 1 A n c (bv (t.drop (64 * j))) ∧
    (∀ ad, A = some ad → Y ad.block ∧ ad.block ≠ hb ∧ ad.block ≠ kb) ∧ Blk wr kb 258 KC ∧ Grew (hashOwn hb Y) w wr
/-- Behind k parts. -/
def OutRel (w : World) (hb kb : Nat) (Y : Nat → Prop) (l : List UInt8) (q : Nat) (L : List (List UInt8)) (g : Nat) (i : Value) (wr : World) : Prop :=
  ∃ (k : Nat) (A : Option Addr) (n c : Nat), g + k = L.length ∧ i = .int .i64 k ∧ n = (l ++ (L.take k).flatten).length % 64 ∧
    Blk wr hb 257 (hcells (Sha.run Sha.start (l ++ (L.take k).flatten)) (.slice A n c) (.int .i64 ((q + (L.take k).flatten.length : Nat) : Int))) ∧ Row wr 0 1 A n c (bv (Sha.left (l ++ (L.take k).flatten))) ∧
    (∀ ad, A = some ad → Y ad.block ∧ ad.block ≠ hb ∧ ad.block ≠ kb) ∧ Blk wr kb 258 KC ∧ Grew (hashOwn hb Y) w wr

theorem flat_step (l : List UInt8) (L : List (List UInt8)) (k : Nat) (h : k < L.length) : l ++ (L.take (k + 1)).flatten = (l ++ (L.take k).flatten) ++ L[k] := by
  rw [List.take_succ_eq_append_getElem h, List.flatten_append]; simp
theorem flat_len (L : List (List UInt8)) (k : Nat) (h : k < L.length) : (L.take k).flatten.length + L[k].length ≤ L.flatten.length := by
  have e : L.flatten = (L.take (k + 1)).flatten ++ (L.drop (k + 1)).flatten := by rw [← List.flatten_append, List.take_append_drop]
  rw [e, List.take_succ_eq_append_getElem h, List.flatten_append]
  simp only [List.length_append, List.flatten_cons, List.flatten_nil, List.append_nil]
  omega
theorem block_at (l : List UInt8) (j i : Nat) (h : 64 * j + i < l.length) (hi : i < 64) : ((l.drop (64 * j)).take 64)[i]? = some l[64 * j + i] := by
  rw [List.getElem?_take, if_pos hi, List.getElem?_drop, List.getElem?_eq_getElem h]

/-- Behind the count's store and the append. -/
theorem write_mid {w wr w2 : World} {hb kb n c : Nat} {Y : Nat → Prop} {A A2 : Option Addr} {s : Sha.St} {cnt cnt' : Value} (hgr : Grew (hashOwn hb Y) w wr) (hblk2 : Blk (wr.setCell ⟨hb, 9, none⟩ cnt') hb 257 (hcells s (.slice A n c) cnt))
    (hY : ∀ k, w.heap.size ≤ k → Y k) (hkc : Blk wr kb 258 KC) (hne : hb ≠ kb) (hak : ∀ ad, A = some ad → Y ad.block ∧ ad.block ≠ hb ∧ ad.block ≠ kb)
    (hgr3 : (wr.setCell ⟨hb, 9, none⟩ cnt').grownBy w2 (A.map (·.block))) (hat : A2 = A ∨ ∃ ad, A2 = some ad ∧ (wr.setCell ⟨hb, 9, none⟩ cnt').heap.size ≤ ad.block) :
    Grew (hashOwn hb Y) w w2 ∧ Blk w2 hb 257 (hcells s (.slice A n c) cnt) ∧ Blk w2 kb 258 KC ∧ (∀ ad, A2 = some ad → Y ad.block ∧ ad.block ≠ hb ∧ ad.block ≠ kb) := by
  have hm : ∀ k, A.map (·.block) = some k → Y k ∧ k ≠ hb ∧ k ≠ kb := fun k hk => by
    cases A with
    | none => cases hk
    | some ad => simp only [Option.map_some, Option.some.injEq] at hk; subst hk; exact hak ad rfl
  have hkl := hkc.lt
  have hbl : hb < wr.heap.size := by have := hblk2.lt; simpa [World.setCell] using this
  have hk2 : Blk (wr.setCell ⟨hb, 9, none⟩ cnt') kb 258 KC := hkc.far (Ne.symm hne) _
  refine ⟨(hgr.set (p := ⟨hb, 9, none⟩) (.inl (.inl rfl)) cnt').trans (Grew.of_grown hgr3 fun k hk _ => .inr (hm k hk).1), hblk2.grown hgr3 (fun e => (hm hb e.symm).2.1 rfl), hk2.grown hgr3 (fun e => (hm kb e.symm).2.2 rfl), fun ad e => ?_⟩
  rcases hat with rfl | ⟨ad', e', hle⟩
  · exact hak ad e
  · rw [e'] at e
    simp only [Option.some.injEq] at e
    subst e
    have h1 : (wr.setCell ⟨hb, 9, none⟩ cnt').heap.size = wr.heap.size := by simp [World.setCell]
    have h2 := hgr.size
    exact ⟨hY _ (by omega), by omega, by omega⟩
theorem write_start {w w2 : World} {hb kb n c N c3 : Nat} {Y : Nat → Prop} {A A2 : Option Addr} {s : Sha.St} {cnt : Value} {t : List UInt8} (hg : Grew (hashOwn hb Y) w w2) (hblk : Blk w2 hb 257 (hcells s (.slice A n c) cnt)) (hrow : Row w2 0 1 A2 N c3 (bv t)) (hne : hb ≠ kb)
    (hk : Blk w2 kb 258 KC) (hak : ∀ ad, A2 = some ad → Y ad.block ∧ ad.block ≠ hb ∧ ad.block ≠ kb) : InRel w hb kb Y s t cnt (t.length / 64) (w2.setCell ⟨hb, 8, none⟩ (.slice A2 N c3)) := by
  refine ⟨0, A2, N, c3, rfl, by have := hrow.1; rw [length_bv] at this; omega, hset8 s _ _ _ ▸ hblk.set 8 _, hrow.far (fun ad e => (hak ad e).2.1) _, hak, hk.far (Ne.symm hne) _, hg.set (.inl (.inl rfl)) _⟩
theorem write_block {w wr w3 : World} {hb kb n c j : Nat} {Y : Nat → Prop} {A A' : Option Addr} {s : Sha.St} {cnt : Value} {t : List UInt8} (hj : n + 64 * j = t.length) (h64 : 64 ≤ n) (hrow : Row wr 0 1 A n c (bv (t.drop (64 * j)))) (hak : ∀ ad, A = some ad → Y ad.block ∧ ad.block ≠ hb ∧ ad.block ≠ kb) (hk : Blk wr kb 258 KC) (hg : Grew (hashOwn hb Y) w wr)
    (hne : hb ≠ kb) (hb3 : Blk w3 hb 257 (hcells (Sha.block (Sha.blocks s t j) ((t.drop (64 * j)).take 64)) (.slice A n c) cnt)) (hg3 : wr.grownBy w3 (some hb)) (hA : A' = if c = 64 then A else A.map (·.add (64 * 1))) {g : Nat} (hgj : g + j = t.length / 64) :
    g - 1 < g ∧ InRel w hb kb Y s t cnt (g - 1) (w3.setCell ⟨hb, 8, none⟩ (.slice A' (n - 64) (c - 64))) := by
  have hrow3 : Row w3 0 1 A n c (bv (t.drop (64 * j))) := hrow.grown hg3 fun ad e => by have := (hak ad e).2.1; simp only [ne_eq, Option.some.injEq]; omega
  have hcut := hrow3.cut (k := 64) h64
  have hak' : ∀ ad, A' = some ad → Y ad.block ∧ ad.block ≠ hb ∧ ad.block ≠ kb := fun ad e => by
    rw [hA] at e
    split at e
    · exact hak ad e
    · cases A with
      | none => cases e
      | some a0 =>
        simp only [Option.map_some, Option.some.injEq] at e
        rw [← e, block_of_add]
        exact hak a0 rfl
  rw [← hA, Nat.mul_one, ← bv_drop, List.drop_drop, show 64 * j + 64 = 64 * (j + 1) by omega] at hcut
  exact ⟨by omega, j + 1, A', n - 64, c - 64, by omega, by omega, hset8 _ _ _ _ ▸ hb3.set 8 _, hcut.far (fun ad e => (hak' ad e).2.1) _, hak', (hk.grown hg3 (by simp; omega)).far (Ne.symm hne) _, (hg.trans (Grew.of_grown hg3 fun k hk _ => .inl (by simpa using hk.symm))).set (.inl (.inl rfl)) _⟩
/-- What does not fill a block is left. -/
theorem write_end {w wr : World} {hb kb n c j k q q' : Nat} {Y : Nat → Prop} {A : Option Addr} {l l' p : List UInt8} {L : List (List UInt8)} (hj : n + 64 * j = (Sha.left l' ++ p).length) (h64 : ¬ 64 ≤ n) (hblk : Blk wr hb 257 (hcells (Sha.blocks (Sha.run Sha.start l') (Sha.left l' ++ p) j) (.slice A n c) (.int .i64 ((q' : Int) + p.length))))
    (hrow : Row wr 0 1 A n c (bv ((Sha.left l' ++ p).drop (64 * j)))) (hak : ∀ ad, A = some ad → Y ad.block ∧ ad.block ≠ hb ∧ ad.block ≠ kb) (hk : Blk wr kb 258 KC) (hg : Grew (hashOwn hb Y) w wr) (hfs : l ++ (L.take (k + 1)).flatten = l' ++ p) (hcs : q + (L.take (k + 1)).flatten.length = q' + p.length) {g : Nat} (hgk : g + k = L.length) (hlt : k < L.length) :
    g - 1 < g ∧ OutRel w hb kb Y l q L (g - 1) (.int .i64 ((k : Int) + 1)) wr := by
  have hjj : j = (Sha.left l' ++ p).length / 64 := by omega
  have h1 : Sha.blocks (Sha.run Sha.start l') (Sha.left l' ++ p) j = Sha.run Sha.start (l' ++ p) := by rw [hjj]; exact Sha.run_append Sha.start l' p
  have h2 : (Sha.left l' ++ p).drop (64 * j) = Sha.left (l' ++ p) := by rw [hjj]; exact Sha.left_append l' p
  rw [h1] at hblk
  rw [h2] at hrow
  refine ⟨by omega, k + 1, A, n, c, by omega, by go_num, ?_, ?_, by rw [hfs]; exact hrow, hak, hk, hg⟩
  · rw [hfs]
    have := Sha.length_left (l' ++ p)
    have h3 := hrow.1
    rw [length_bv] at h3
    omega
  · rw [hfs, hcs]
    have e : ((q' + p.length : Nat) : Int) = (q' : Int) + p.length := by simp
    rw [e]
    exact hblk

set_option maxRecDepth 100000 in
set_option maxHeartbeats 4000000 in
theorem Write_any (hb : Nat) (X : Nat → Prop) (l : List UInt8) (L : List (List UInt8)) (PA : Option Addr) (pc : Nat) (R : Nat → Prop) (w : World) (q : Nat) (h : HashAt w hb X l q) (hp : Parts w R PA L) (hR : ∀ k, R k → k < w.heap.size ∧ k ≠ hb ∧ ¬ X k)
    (hlen : L.length ≤ 140737488351232) (hsum : q + L.flatten.length ≤ 4611686018427387904) :
    Calls Tryz.prog 165 #[.pointer (some ⟨hb, 0, none⟩), .slice PA L.length pc] w fun e w' => e = .returned (.tuple #[]) ∧ HashAt w' hb (fun k => X k ∨ w.heap.size ≤ k) (l ++ L.flatten) (q + L.flatten.length) ∧ Grew (fun k => k = hb ∨ X k) w w' := by
  have hbw := h.lt
  obtain ⟨A0, n0, c0, hblk0, hrow0, hn0, ha0⟩ := h
  generalize hYd : (fun k => X k ∨ w.heap.size ≤ k) = Y
  have hY : ∀ k, w.heap.size ≤ k → Y k := fun k hk => by rw [← hYd]; exact .inr hk
  have hXY : ∀ k, X k → Y k := fun k hk => by rw [← hYd]; exact .inl hk
  have hYX : ∀ k, k < w.heap.size → Y k → X k := fun k hk h => by rw [← hYd] at h; rcases h with h | h; exact h; omega
  have HY := Lib.hid hY
  have HXY := Lib.hid hXY
  have HYX := Lib.hid hYX
  clear hY hXY hYX hYd
  go_enter Tryz.func165, Tryz.ntmps165
  go_wp2_with fail
  refine (words_walk _).mono ?_
  rintro e w1 ⟨rfl, hb1⟩
  go_wp2_with (refine wpList_plain rfl fun K hK => ?_; refine wp_store_row 258 _ _ rfl w1.heap.size KC rfl rfl 258 _ (heap_alloc_new w1 _) (by rw [KC_size]; kernel_rfl) (by rw [KC_size]; simp) KC_one (hK _ _ ?_); clear hK K)
  have hgk : Grew (hashOwn hb Y) w ((w1.alloc (.cells (Array.replicate 64 (.int .u32 0)) 258)).setRow w1.heap.size KC) :=
    Grew.of_new (below_setRow (hb1.alloc hb1.size _) hb1.size _)
  have hkc : Blk ((w1.alloc (.cells (Array.replicate 64 (.int .u32 0)) 258)).setRow w1.heap.size KC) w1.heap.size 258 KC := setRow_heap _ _ _ _ _ _ (heap_alloc_new w1 _)
  have hsz : w.heap.size ≤ w1.heap.size := hb1.size
  have hbB : Blk ((w1.alloc (.cells (Array.replicate 64 (.int .u32 0)) 258)).setRow w1.heap.size KC) hb 257 (hcells (Sha.run Sha.start l) (.slice A0 n0 c0) (.int .i64 (q : Int))) :=
    hblk0.below (below_setRow (hb1.alloc hb1.size _) hb1.size _) hbw
  have hrB : Row ((w1.alloc (.cells (Array.replicate 64 (.int .u32 0)) 258)).setRow w1.heap.size KC) 0 1 A0 n0 c0 (bv (Sha.left l)) :=
    hrow0.below (below_setRow (hb1.alloc hb1.size _) hb1.size _) (Nat.le_refl _)
  have hst : OutRel w hb w1.heap.size Y l q L L.length (.int .i64 0) ((w1.alloc (.cells (Array.replicate 64 (.int .u32 0)) 258)).setRow w1.heap.size KC) :=
    ⟨0, A0, n0, c0, rfl, rfl, by simpa using hn0, by simpa using hbB, by simpa using hrB, fun ad e => ⟨HXY.out _ (ha0 ad e).1, (ha0 ad e).2, by have := (hrow0.lt ad e).2; omega⟩, hkc, hgk⟩
  have HST := Lib.hid hst
  clear hst hrB hbB hkc hgk hblk0 hrow0 hn0 hb1 ha0
  go_loopg [10] L.length (fun g i wr => OutRel w hb w1.heap.size Y l q L g i wr)
  case atStart => exact HST.out
  case round =>
    clear HST
    obtain ⟨g1, rfl⟩ : ∃ g1, g1 = gk := ⟨_, rfl⟩
    obtain ⟨k, A, n, c, hgk, rfl, hn, hblk, hrow, hak, hkc, hgr⟩ := hrel
    by_cases hlt : k < L.length
    · have hp2 := hp.grew hgr (fun k hk => ⟨(hR k hk).1, fun hh => hh.elim (hR k hk).2.1 fun hh => (hR k hk).2.2 (HYX.out k (hR k hk).1 hh)⟩)
      obtain ⟨pb, po, hPA, hpR, hpc⟩ := hp2 (by omega)
      obtain ⟨v, hv, hpart⟩ := hpc k hlt
      obtain ⟨PA2, m, c2, rfl, hml, hmc, hm47, hread⟩ := hpart.reads (B := w.heap.size) (fun k hk => (hR k hk).1)
      have hsum' : q + (L.take k).flatten.length + m ≤ 4611686018427387904 := by have := flat_len L k hlt; omega
      have hcs0 : q + (L.take (k + 1)).flatten.length = q + (L.take k).flatten.length + L[k].length := by rw [List.take_succ_eq_append_getElem hlt, List.flatten_append]; simp; omega
      have HFS := Lib.hid (flat_step l L k hlt)
      have HCS := Lib.hid hcs0
      clear hcs0
      generalize q + (L.take k).flatten.length = q' at hblk hsum' HCS
      generalize l ++ (L.take k).flatten = l' at hn hblk hrow HFS
      generalize hLk : L[k] = p at hml hread HFS HCS hpart
      have HML := Lib.hid hml
      have HN := Lib.hid hn
      have hn64 : n < 64 := by omega
      have hlc : (q' : Int) + m ≤ 4611686018427387904 := by omega
      have g8 := (hblk.cell 8).trans (hc8 _ _ _)
      have g9 := (hblk.cell 9).trans (hc9 _ _ _)
      have f8 := hblk.frozen 8
      have f9 := hblk.frozen 9
      have hne : hb ≠ w1.heap.size := by omega
      have hbr1 := hblk.lt
      -- behind the count's store
      have hblk2 := hblk.set 9 (.int .i64 ((q' : Int) + m))
      rw [hset9] at hblk2
      have hrow2 := hrow.far (p := ⟨hb, 9, none⟩) (fun ad e => (hak ad e).2.1) (.int .i64 ((q' : Int) + m))
      obtain ⟨_, _, _, hread2⟩ := (hpart.keep (w' := wr.setCell ⟨hb, 9, none⟩ (.int .i64 ((q' : Int) + m))) (fun k hk => Below.heap_setCell wr _ _ k (hR k hk).2.1)).its (B := w.heap.size) (fun k hk => (hR k hk).1)
      obtain ⟨i0, hi, hz0, hz1, hz2⟩ := info_parts byte_info
      have HP := Lib.hid hp
      have HHR := Lib.hid hR
      have HPC := Lib.hid hpc
      have HPA := Lib.hid hPA
      have HNE := Lib.hid hne
      have HAK := Lib.hid hak
      have HROW2 := Lib.hid hrow2
      have HBLK2 := Lib.hid hblk2
      have HKC := Lib.hid hkc
      have HGR := Lib.hid hgr
      have HLK := Lib.hid hLk
      have HREAD2 := Lib.hid hread2
      have HGK := Lib.hid hgk
      clear hp hp2 hR hpc hak hrow hrow2 hblk hblk2 hkc hgr hLk hread hread2 hpart hml hn hsum' hgk hne
      subst hPA
      go_wp2_with (at_builtin; refine wpList_append_row rfl (.tmp 27) (.tmp 28) rfl Tryz.underlying27 hi hz0 hz1 hz2 rfl (by decide) rfl HROW2.out rfl HREAD2.out (bv_one p) (by unfold maxLen; omega) (by omega) (Nat.zero_le _) ?_; intro A2 c3 w2 hrow3 hgr3 hat3; obtain ⟨hg4, hb4, hk4, ha4⟩ := write_mid HGR.out HBLK2.out HY.out HKC.out HNE.out HAK.out hgr3 hat3; have g8' := (hb4.cell 8).trans (hc8 _ _ _); have f8' := hb4.frozen 8; have HIN := Lib.hid (write_start hg4 hb4 (bv_append _ _ ▸ hrow3) HNE.out hk4 ha4); clear hg4 hb4 hk4 ha4 hrow3 hgr3 hat3)
      clear g8 g9 f8 f9 g8' f8' HBLK2 HROW2 HREAD2 HKC HGR HAK
      go_loopg [] ((Sha.left l' ++ p).length / 64) (fun g wr => InRel w hb w1.heap.size Y (Sha.run Sha.start l') (Sha.left l' ++ p) (.int .i64 ((q' : Int) + m)) g wr)
      case atStart => exact HIN.out
      case round =>
        clear HIN
        obtain ⟨j, A4, n4, c4, hgj, hj, hblk, hrow, hak, hkc, hgr⟩ := hrel
        have hb1 := hblk.lt
        have g8 := (hblk.cell 8).trans (hc8 _ _ _)
        have f8 := hblk.frozen 8
        have hn4c := hrow.2.1
        have hc4m := hrow.2.2.1
        have hc4m' : c4 ≤ 9223372036854775807 := hc4m
        by_cases h64 : 64 ≤ n4
        · obtain ⟨g, o, rfl⟩ : ∃ g o, A4 = some ⟨g, o, none⟩ := by
            cases A4 with
            | none => have := hrow.2.2.2.1 rfl; omega
            | some ad => obtain ⟨g, o, rfl, _⟩ := hrow.2.2.2.2 _ rfl; exact ⟨g, o, rfl⟩
          have hll : ((Sha.left l' ++ p).drop (64 * j)).length = n4 := by rw [List.length_drop]; omega
          have hl64 : (((Sha.left l' ++ p).drop (64 * j)).take 64).length = 64 := by rw [List.length_take, hll]; omega
          have HL64 := Lib.hid hl64
          have HBY : Hid (∀ i (h : i < 64), wr.cell? ⟨g, o + i, none⟩ = some (.int .u8 (((((Sha.left l' ++ p).drop (64 * j)).take 64)[i]'(Nat.lt_of_lt_of_eq h HL64.out.symm)).toNat : Int))) := Lib.hid fun i h => by
            rw [List.getElem_take]
            exact hrow.cell (bv_at _ i (by omega))
          have HKB : Hid (∀ i, i < 64 → wr.cell? ⟨w1.heap.size, i, none⟩ = some (uv (Sha.K.getD i 0))) := Lib.hid fun i h => (hkc.cell i).trans (KC_at i h)
          have hkl := hkc.lt
          have hgl := hrow.at_.2.1
          have HGJ := Lib.hid hgj
          have HJ := Lib.hid hj
          have HBLK := Lib.hid hblk
          have HROW := Lib.hid hrow
          have HAK := Lib.hid hak
          have HKC := Lib.hid hkc
          have HGR := Lib.hid hgr
          clear hgj hj hblk hrow hak hkc hgr hc4m hll hl64
          go_wp2_with fail
          go_still_tail 7, (by kernel_rfl)
          go_wp2_with fail
          refine (block_any hb w1.heap.size g o n4 c4 _ _ [.slice (some ⟨g, o, none⟩) n4 c4, .int .i64 ((q' : Int) + m)] 257 wr.drew h64 hn4c hc4m' HL64.out HBLK.out HKB.out hkl HBY.out hgl (Sha.blocks_ok (Sha.run_ok Sha.start_ok _) _ _)).mono ?_
          rintro e w3 ⟨rfl, hb3, hg3⟩
          have g8' := (hb3.cell 8).trans (hc8 _ _ _)
          have f8' := hb3.frozen 8
          have HEND := fun A' hA => Lib.hid (write_block (A' := A') HJ.out h64 HROW.out HAK.out HKC.out HGR.out HNE.out hb3 ⟨hg3.os, hg3.tape, hg3.output, hg3.size, hg3.block⟩ hA HGJ.out)
          have HEND2 := Lib.hid HEND
          clear HEND hb3 hg3 g8 f8 hkl hgl
          go_wp2_with fail
          all_goals go_roundg (gk - 1)
          all_goals first | exact (HEND2.out _ rfl).out.1 | exact (HEND2.out _ (by rw [if_neg (by assumption), Option.map_some, add_plain])).out.2 | (have hx := (HEND2.out (some ⟨g, o, none⟩) (by rw [if_pos (by omega)])).out.2; rw [show c4 - 64 = 0 by omega] at hx; exact hx)
        · have hml := HML.out
          have HOUT := Lib.hid (write_end hj h64 (by rw [hml]; exact hblk) hrow hak hkc hgr HFS.out HCS.out HGK.out hlt)
          clear hgj hj hblk hrow hak hkc hgr hml
          go_wp2_with fail
          go_roundg (g1 - 1)
          case measure => exact HOUT.out.1
          case rel => exact HOUT.out.2
    · obtain rfl : k = L.length := by omega
      rw [List.take_length] at hblk hrow hn
      have hb1 := hblk.lt
      have g8 := (hblk.cell 8).trans (hc8 _ _ _)
      have f8 := hblk.frozen 8
      have hgsz := hgr.size
      have HBLK := Lib.hid hblk
      have HROW := Lib.hid hrow
      have HGR := Lib.hid hgr
      have HN := Lib.hid hn
      have hn64 : n < 64 := by omega
      clear hblk hrow hgr hgk hn hak hkc
      go_wp2_with fail
      refine (sClone_any A n c _ _ _ HROW.out.reads (Nat.le_refl _) (by omega)).mono ?_
      rintro e w3 ⟨A3, c3, rfl, hrow3, hb3⟩
      have hblk3 := HBLK.out.below hb3 hb1
      have g8' := (hblk3.cell 8).trans (hc8 _ _ _)
      have f8' := hblk3.frozen 8
      have HBLK3 := Lib.hid hblk3
      have HROW3 := Lib.hid hrow3
      clear hblk3 hrow3 g8 f8
      go_wp2_with fail
      go_end0
      refine ⟨rfl, ⟨A3, _, c3, HBLK3.out.set 8 _, (HROW3.out.mono (Nat.zero_le _)).far (fun ad e => by have := (HROW3.out.lt ad e).1; show ad.block ≠ hb; omega) _, ?_, fun ad e => ?_⟩, ((HGR.out.trans (Grew.of_new hb3)).set (.inl (.inl rfl)) _).mono fun k hk h => h.imp id (HYX.out k hk)⟩
      · have := Sha.length_left (l ++ L.flatten)
        omega
      · have h1 := (HROW3.out.lt ad e).1
        exact ⟨HY.out _ (by omega), by omega⟩
end Go.Proofs.YtogpnlfbdhddmaaGreatDoor
namespace Go.Proofs.YtogpnlfbdhddmaaGreatDoor
open Go.RowKit

/-- A copy of a digest, for its end: in new blocks, and what does not fill a block lies apart. -/
def EndRel (w : World) (l : List UInt8) (s3 : Value) (wx : World) : Prop :=
  ∃ (eb : Nat) (X : Nat → Prop), s3 = .pointer (some ⟨eb, 0, none⟩) ∧ w.heap.size ≤ eb ∧ HashAt wx eb X l 0 ∧ (∀ k, X k → w.heap.size ≤ k ∧ k < wx.heap.size) ∧ Below w.heap.size w wx

theorem end_first {w w1 : World} {l : List UInt8} {A1 : Option Addr} {n c1 sa sb sc sd se sf sg sh : Nat} (hs : Sha.run Sha.start l = ⟨sa, sb, sc, sd, se, sf, sg, sh⟩) (hrow : Row w1 w.drew.heap.size 1 A1 n c1 (bv (Sha.left l))) (hb : Below w.drew.heap.size w.drew w1) :
    EndRel w l (.pointer (some ⟨w1.heap.size, 0, none⟩)) (w1.alloc (.cells #[.int .u32 (sa : Int), .int .u32 (sb : Int), .int .u32 (sc : Int), .int .u32 (sd : Int), .int .u32 (se : Int), .int .u32 (sf : Int), .int .u32 (sg : Int), .int .u32 (sh : Int), .slice A1 n c1, .int .i64 0] 257)) := by
  have hsz : w.heap.size ≤ w1.heap.size := hb.size
  refine ⟨w1.heap.size, fun k => w.heap.size ≤ k ∧ k < w1.heap.size, rfl, hsz, ⟨A1, n, c1, ?_, (hrow.mono (Nat.zero_le _)).alloc _, ?_, fun ad e => ?_⟩, fun k hk => ⟨hk.1, by simp; omega⟩, ?_⟩
  · rw [hs]
    exact Blk.new w1 257 _
  · have := hrow.1
    rw [length_bv, Sha.length_left] at this
    omega
  · have := hrow.lt ad e
    exact ⟨⟨this.1, this.2⟩, by omega⟩
  · have hb2 : Below w.heap.size w w1 := ⟨hb.os, hb.tape, hb.output, hb.size, hb.block⟩
    exact hb2.alloc hsz _
theorem end_second {w w1 : World} {l : List UInt8} {A1 : Option Addr} {n c1 sa sb sc sd se sf sg sh : Nat} {x0 x1 x2 x3 x4 x5 x6 x7 x8 x9 : Value} (hs : Sha.run Sha.start l = ⟨sa, sb, sc, sd, se, sf, sg, sh⟩)
    (hrow : Row w1 (w.alloc (.cells #[x0, x1, x2, x3, x4, x5, x6, x7, x8, x9] 257)).drew.heap.size 1 A1 n c1 (bv (Sha.left l))) (hb : Below (w.alloc (.cells #[x0, x1, x2, x3, x4, x5, x6, x7, x8, x9] 257)).drew.heap.size (w.alloc (.cells #[x0, x1, x2, x3, x4, x5, x6, x7, x8, x9] 257)).drew w1) :
    EndRel w l (.pointer (some ⟨w.heap.size, 0, none⟩)) ((((((((((w1.setCell ⟨w.heap.size, 0, none⟩ (.int .u32 (sa : Int))).setCell ⟨w.heap.size, 1, none⟩ (.int .u32 (sb : Int))).setCell ⟨w.heap.size, 2, none⟩ (.int .u32 (sc : Int))).setCell ⟨w.heap.size, 3, none⟩ (.int .u32 (sd : Int))).setCell ⟨w.heap.size, 4, none⟩ (.int .u32 (se : Int))).setCell
      ⟨w.heap.size, 5, none⟩ (.int .u32 (sf : Int))).setCell ⟨w.heap.size, 6, none⟩ (.int .u32 (sg : Int))).setCell ⟨w.heap.size, 7, none⟩ (.int .u32 (sh : Int))).setCell ⟨w.heap.size, 8, none⟩ (.slice A1 n c1)).setCell ⟨w.heap.size, 9, none⟩ (.int .i64 0)) := by
  have e : (w.alloc (.cells #[x0, x1, x2, x3, x4, x5, x6, x7, x8, x9] 257)).drew.heap.size = w.heap.size + 1 := by simp
  have hk : Blk w1 w.heap.size 257 #[x0, x1, x2, x3, x4, x5, x6, x7, x8, x9] := (hb.block w.heap.size (by omega)).trans (Blk.new w 257 _)
  have hsz : w.heap.size + 1 ≤ w1.heap.size := by have := hb.size; omega
  rw [e] at hrow
  have ha : ∀ ad, A1 = some ad → ad.block ≠ w.heap.size := fun ad h => by have := (hrow.lt ad h).1; omega
  have hbw : Below w.heap.size w w1 := ((Below.refl _ w).alloc (Nat.le_refl _) _).trans (Below.mono (B := (w.alloc (.cells #[x0, x1, x2, x3, x4, x5, x6, x7, x8, x9] 257)).heap.size) ⟨hb.os, hb.tape, hb.output, hb.size, hb.block⟩ (by simp))
  refine ⟨w.heap.size, fun k => w.heap.size < k ∧ k < w1.heap.size, rfl, Nat.le_refl _, ⟨A1, n, c1, ?_, ?_, ?_, fun ad h => ?_⟩, fun k hk => ⟨by omega, by simp [World.setCell]; omega⟩, ?_⟩
  · rw [hs]
    have k0 : Blk _ w.heap.size 257 #[.int .u32 (sa : Int), x1, x2, x3, x4, x5, x6, x7, x8, x9] := hk.set 0 (.int .u32 (sa : Int))
    have k1 : Blk _ w.heap.size 257 #[.int .u32 (sa : Int), .int .u32 (sb : Int), x2, x3, x4, x5, x6, x7, x8, x9] := k0.set 1 (.int .u32 (sb : Int))
    have k2 : Blk _ w.heap.size 257 #[.int .u32 (sa : Int), .int .u32 (sb : Int), .int .u32 (sc : Int), x3, x4, x5, x6, x7, x8, x9] := k1.set 2 (.int .u32 (sc : Int))
    have k3 : Blk _ w.heap.size 257 #[.int .u32 (sa : Int), .int .u32 (sb : Int), .int .u32 (sc : Int), .int .u32 (sd : Int), x4, x5, x6, x7, x8, x9] := k2.set 3 (.int .u32 (sd : Int))
    have k4 : Blk _ w.heap.size 257 #[.int .u32 (sa : Int), .int .u32 (sb : Int), .int .u32 (sc : Int), .int .u32 (sd : Int), .int .u32 (se : Int), x5, x6, x7, x8, x9] := k3.set 4 (.int .u32 (se : Int))
    have k5 : Blk _ w.heap.size 257 #[.int .u32 (sa : Int), .int .u32 (sb : Int), .int .u32 (sc : Int), .int .u32 (sd : Int), .int .u32 (se : Int), .int .u32 (sf : Int), x6, x7, x8, x9] := k4.set 5 (.int .u32 (sf : Int))
    have k6 : Blk _ w.heap.size 257 #[.int .u32 (sa : Int), .int .u32 (sb : Int), .int .u32 (sc : Int), .int .u32 (sd : Int), .int .u32 (se : Int), .int .u32 (sf : Int), .int .u32 (sg : Int), x7, x8, x9] := k5.set 6 (.int .u32 (sg : Int))
    have k7 : Blk _ w.heap.size 257 #[.int .u32 (sa : Int), .int .u32 (sb : Int), .int .u32 (sc : Int), .int .u32 (sd : Int), .int .u32 (se : Int), .int .u32 (sf : Int), .int .u32 (sg : Int), .int .u32 (sh : Int), x8, x9] := k6.set 7 (.int .u32 (sh : Int))
    have k8 : Blk _ w.heap.size 257 #[.int .u32 (sa : Int), .int .u32 (sb : Int), .int .u32 (sc : Int), .int .u32 (sd : Int), .int .u32 (se : Int), .int .u32 (sf : Int), .int .u32 (sg : Int), .int .u32 (sh : Int), .slice A1 n c1, x9] := k7.set 8 (.slice A1 n c1)
    have k9 : Blk _ w.heap.size 257 #[.int .u32 (sa : Int), .int .u32 (sb : Int), .int .u32 (sc : Int), .int .u32 (sd : Int), .int .u32 (se : Int), .int .u32 (sf : Int), .int .u32 (sg : Int), .int .u32 (sh : Int), .slice A1 n c1, .int .i64 0] := k8.set 9 (.int .i64 0)
    exact k9
  · exact (((((((((((hrow.mono (Nat.zero_le _)).far (p := ⟨w.heap.size, 0, none⟩) ha _).far (p := ⟨w.heap.size, 1, none⟩) ha _).far (p := ⟨w.heap.size, 2, none⟩) ha _).far (p := ⟨w.heap.size, 3, none⟩) ha _).far (p := ⟨w.heap.size, 4, none⟩) ha _).far (p := ⟨w.heap.size, 5, none⟩) ha _).far (p := ⟨w.heap.size, 6, none⟩) ha _).far (p := ⟨w.heap.size, 7, none⟩) ha _).far (p := ⟨w.heap.size, 8, none⟩) ha _).far (p := ⟨w.heap.size, 9, none⟩) ha _)
  · have := hrow.1
    rw [length_bv, Sha.length_left] at this
    omega
  · have := hrow.lt ad h
    exact ⟨⟨by omega, this.2⟩, by omega⟩
  · exact (((((((((hbw.setCell (Nat.le_refl _) _).setCell (Nat.le_refl _) _).setCell (Nat.le_refl _) _).setCell (Nat.le_refl _) _).setCell (Nat.le_refl _) _).setCell (Nat.le_refl _) _).setCell (Nat.le_refl _) _).setCell (Nat.le_refl _) _).setCell (Nat.le_refl _) _).setCell (Nat.le_refl _) _

/-- The end of a text, so far: its first byte, noughts, k bytes of its length. -/
def PadRel (wc : World) (K : Nat) (N : Int) (s5 i : Value) (wr : World) : Prop :=
  ∃ (k : Nat) (A : Option Addr) (c : Nat), k ≤ 8 ∧ i = .int .i64 k ∧ s5 = .slice A (1 + K + k) c ∧ Row wr wc.heap.size 1 A (1 + K + k) c (bv (128 :: (List.replicate K 0 ++ (Sha.eight N).take k))) ∧ Below wc.heap.size wc wr

theorem pad_next {wc w2 : World} {K k c2 : Nat} {n : Nat} {A2 : Option Addr} (h : k < 8) (hr : Row w2 wc.heap.size 1 A2 (1 + K + k + 1) c2 (bv (128 :: (List.replicate K 0 ++ (Sha.eight (8 * (n : Int))).take k)) ++ [.int .u8 ((n : Int) * 8 / 2 ^ (56 - 8 * k) % 256)])) (hb : Below wc.heap.size wc w2) :
    PadRel wc K (8 * (n : Int)) (.slice A2 (1 + K + k + 1) c2) (.int .i64 ((k : Int) + 1)) w2 := by
  refine ⟨k + 1, A2, c2, by omega, by go_num, by rw [Nat.add_assoc], ?_, hb⟩
  rw [Sha.eight_next _ k h]
  have e : bv (128 :: (List.replicate K 0 ++ ((Sha.eight (8 * (n : Int))).take k ++ [Sha.by8 (8 * (n : Int)) (56 - 8 * k)]))) = bv (128 :: (List.replicate K 0 ++ (Sha.eight (8 * (n : Int))).take k)) ++ [.int .u8 ((n : Int) * 8 / 2 ^ (56 - 8 * k) % 256)] := by
    rw [← List.append_assoc, ← List.cons_append, bv_append]
    congr 1
    simp only [bv, List.map_cons, List.map_nil, Sha.by8_toNat]
    rw [Int.mul_comm]
  rw [e, ← Nat.add_assoc]
  exact hr
theorem pad_all {n K m : Nat} (hk : K = (119 - n) % 64) (hn : n = m % 64) : 128 :: (List.replicate K 0 ++ Sha.eight (8 * (m : Int))) = Sha.pad m := by
  unfold Sha.pad
  rw [hk, hn]

theorem ix8 (s : Sha.St) (k : Nat) (h : k < 8) (w : World) : (Instr.index 254 (.agg #[.int .u32 (s.a : Int), .int .u32 (s.b : Int), .int .u32 (s.c : Int), .int .u32 (s.d : Int), .int .u32 (s.e : Int), .int .u32 (s.f : Int), .int .u32 (s.g : Int), .int .u32 (s.h : Int)]) (.int .i64 (k : Int))).run Tryz.prog w = .ok (.int .u32 (s.list.getD k 0 : Nat)) w := by
  obtain rfl | rfl | rfl | rfl | rfl | rfl | rfl | rfl : k = 0 ∨ k = 1 ∨ k = 2 ∨ k = 3 ∨ k = 4 ∨ k = 5 ∨ k = 6 ∨ k = 7 := by omega
  all_goals kernel_rfl
theorem dig_out (x : Nat) (hx : x < 4294967296) : bv (Sha.out4 x) = [.int .u8 ((x : Int) / 16777216), .int .u8 ((x : Int) / 65536 % 256), .int .u8 ((x : Int) / 256 % 256), .int .u8 ((x : Int) % 256)] := by
  simp only [bv, Sha.out4, List.map_cons, List.map_nil, UInt8.toNat_ofNat', Nat.shiftRight_eq_div_pow]
  rw [show ((x / 2 ^ 24 % 2 ^ 8 : Nat) : Int) = (x : Int) / 16777216 by omega, show ((x / 2 ^ 16 % 2 ^ 8 : Nat) : Int) = (x : Int) / 65536 % 256 by omega, show ((x / 2 ^ 8 % 2 ^ 8 : Nat) : Int) = (x : Int) / 256 % 256 by omega, show ((x % 2 ^ 8 : Nat) : Int) = (x : Int) % 256 by omega]
/-- The digest, so far: k words. -/
def DigRel (w5 : World) (s : Sha.St) (s7 i : Value) (wr : World) : Prop :=
  ∃ (k : Nat) (A : Option Addr) (c : Nat), k ≤ 8 ∧ i = .int .i64 k ∧ s7 = .slice A (4 * k) c ∧ Row wr w5.heap.size 1 A (4 * k) c (bv ((s.list.take k).flatMap Sha.out4)) ∧ Below w5.heap.size w5 wr

theorem dig_next {w5 w7 : World} {s : Sha.St} {k x c7 : Nat} {A7 : Option Addr} (h : k < 8) (hx : s.list.getD k 0 = x) (hxl : x < 4294967296) (hr : Row w7 w5.heap.size 1 A7 (4 * k + 4) c7 (bv ((s.list.take k).flatMap Sha.out4) ++ [.int .u8 ((x : Int) / 16777216), .int .u8 ((x : Int) / 65536 % 256), .int .u8 ((x : Int) / 256 % 256), .int .u8 ((x : Int) % 256)])) (hb : Below w5.heap.size w5 w7) :
    DigRel w5 s (.slice A7 (4 * k + 4) c7) (.int .i64 ((k : Int) + 1)) w7 := by
  refine ⟨k + 1, A7, c7, by omega, by go_num, rfl, ?_, hb⟩
  rw [Sha.flat_next s k h, hx, bv_append, dig_out x hxl]
  exact hr

set_option maxRecDepth 100000 in
set_option maxHeartbeats 4000000 in
theorem HSum_any (hb : Nat) (X : Nat → Prop) (l : List UInt8) (w : World) (h : HashAt w hb X l l.length) (hl : l.length ≤ 1152921504606846976) :
    Calls Tryz.prog 167 #[.pointer (some ⟨hb, 0, none⟩)] w fun e w' => RowOut (Sha.sum l) w e w' := by
  have hbl := h.lt
  obtain ⟨A, n, c, hblk, hrow, hn, ha⟩ := h
  generalize hs : Sha.run Sha.start l = s at *
  obtain ⟨sa, sb, sc, sd, se, sf, sg, sh⟩ := s
  have d0 : w.cell? ⟨hb, 0, none⟩ = some (.int .u32 (sa : Int)) := hblk.cell 0
  have d1 : w.cell? ⟨hb, 1, none⟩ = some (.int .u32 (sb : Int)) := hblk.cell 1
  have d2 : w.cell? ⟨hb, 2, none⟩ = some (.int .u32 (sc : Int)) := hblk.cell 2
  have d3 : w.cell? ⟨hb, 3, none⟩ = some (.int .u32 (sd : Int)) := hblk.cell 3
  have d4 : w.cell? ⟨hb, 4, none⟩ = some (.int .u32 (se : Int)) := hblk.cell 4
  have d5 : w.cell? ⟨hb, 5, none⟩ = some (.int .u32 (sf : Int)) := hblk.cell 5
  have d6 : w.cell? ⟨hb, 6, none⟩ = some (.int .u32 (sg : Int)) := hblk.cell 6
  have d7 : w.cell? ⟨hb, 7, none⟩ = some (.int .u32 (sh : Int)) := hblk.cell 7
  have d8 : w.cell? ⟨hb, 8, none⟩ = some (.slice A n c) := hblk.cell 8
  have d9 : w.cell? ⟨hb, 9, none⟩ = some (.int .i64 (l.length : Int)) := hblk.cell 9
  have e0 := World.new_ne w _ d0
  have e1 := World.new_ne w _ d1
  have e2 := World.new_ne w _ d2
  have e3 := World.new_ne w _ d3
  have e4 := World.new_ne w _ d4
  have e5 := World.new_ne w _ d5
  have e6 := World.new_ne w _ d6
  have e7 := World.new_ne w _ d7
  have e8 := World.new_ne w _ d8
  have e9 := World.new_ne w _ d9
  have hn64 : n < 64 := by omega
  have hnm : n ≤ 140737488355328 := by omega
  have hal : ∀ {o : Obj}, w.heap.size < ((w.alloc o).drew).heap.size := fun {o} => by simp
  have HS := Lib.hid hs
  have HN := Lib.hid hn
  have HA := Lib.hid ha
  have HROW := Lib.hid hrow
  have HBLK := Lib.hid hblk
  have HRD : Hid (Reads w w.heap.size 1 A n (bv (Sha.left l))) := Lib.hid hrow.reads
  clear hs hn ha hrow hblk
  go_enter Tryz.func167, Tryz.ntmps167
  go_upto_region 1 with fail
  go_cut [3] (fun s3 wx => EndRel w l s3 wx)
  case first =>
    go_region_held3 (fun w' => w'.cell? ⟨hb, 0, none⟩ = some (.int .u32 (sa : Int)) ∧ w'.cell? ⟨hb, 1, none⟩ = some (.int .u32 (sb : Int)) ∧ w'.cell? ⟨hb, 2, none⟩ = some (.int .u32 (sc : Int)) ∧ w'.cell? ⟨hb, 3, none⟩ = some (.int .u32 (sd : Int)) ∧ w'.cell? ⟨hb, 4, none⟩ = some (.int .u32 (se : Int)) ∧ w'.cell? ⟨hb, 5, none⟩ = some (.int .u32 (sf : Int)) ∧ w'.cell? ⟨hb, 6, none⟩ = some (.int .u32 (sg : Int)) ∧ w'.cell? ⟨hb, 7, none⟩ = some (.int .u32 (sh : Int)) ∧ w'.cell? ⟨hb, 8, none⟩ = some (.slice A n c))
      (go_keep)
      (first
        | (refine (sClone_any A n c w.heap.size (Sha.left l) w.drew HRD.out (Nat.le_refl _) hnm).mono ?_; rintro e w1 ⟨A1, c1, rfl, hrow1, hb1⟩; have hcb := fun o => hb1.cell (p := ⟨hb, o, none⟩) hbl; have hfb := fun o => hb1.frozen (p := ⟨hb, o, none⟩) hbl; simp at hcb hfb; have HROW1 := Lib.hid hrow1; have HB1 := Lib.hid hb1; clear hrow1 hb1)
        | (refine (sClone_any A n c w.heap.size (Sha.left l) (w.alloc _).drew (HRD.out.alloc (Nat.le_refl _) _) (Nat.le_of_lt hal) hnm).mono ?_; rintro e w1 ⟨A1, c1, rfl, hrow1, hb1⟩; have hcb := fun o => hb1.cell (p := ⟨hb, o, none⟩) (Nat.lt_trans hbl hal); have hfb := fun o => hb1.frozen (p := ⟨hb, o, none⟩) (Nat.lt_trans hbl hal); have hcn := fun o => hb1.cell (p := ⟨w.heap.size, o, none⟩) hal; have hfn := fun o => hb1.frozen (p := ⟨w.heap.size, o, none⟩) hal; simp at hcb hfb; have HROW1 := Lib.hid hrow1; have HB1 := Lib.hid hb1; clear hrow1 hb1))
    · go_wp2_with fail
      go_meet
      exact end_first HS.out HROW1.out HB1.out
    · go_wp2_with fail
      go_meet
      exact end_second HS.out HROW1.out HB1.out
  case rest =>
    obtain ⟨eb, X2, rfl, heb, hash, hX2, hbx⟩ := hcut
    clear d0 d1 d2 d3 d4 d5 d6 d7 e0 e1 e2 e3 e4 e5 e6 e7 e8 e9
    have d8' : wc.cell? ⟨hb, 8, none⟩ = some (.slice A n c) := (hbx.cell (p := ⟨hb, 8, none⟩) hbl).trans d8
    have d9' : wc.cell? ⟨hb, 9, none⟩ = some (.int .i64 (l.length : Int)) := (hbx.cell (p := ⟨hb, 9, none⟩) hbl).trans d9
    clear d8 d9
    have HASH := Lib.hid hash
    have HX2 := Lib.hid hX2
    have HBX := Lib.hid hbx
    clear hash hX2 hbx
    obtain ⟨K, hK, hKi⟩ : ∃ K : Nat, K = (119 - n) % 64 ∧ (119 - (n : Int)) % 64 = (K : Int) := ⟨(119 - n) % 64, rfl, by omega⟩
    have hK64 : K < 64 := by omega
    have HK := Lib.hid hK
    clear hK
    obtain ⟨i0, hi, hz0, hz1, hz2⟩ := info_parts byte_info
    have hmk := fun W => run_make (P := Tryz.prog) W 27 5 i0 (.int .u8 0) Tryz.underlying27 hi hz0 .i64 .i64 (1 + (K : Int)) 72 (by omega) (by omega) (by rw [hz2]; omega) (by omega)
    rw [hz1, show (1 + (K : Int)).toNat = 1 + K by omega, show (72 : Int).toNat = 72 from rfl, Nat.mul_one] at hmk
    have hrow0 := made_row wc (.int .u8 0) 5 (1 + K) 72 (by omega) (by unfold maxLen; omega)
    obtain ⟨u0, hu0⟩ := Option.isSome_iff_exists.1 (hrow0.at_.2.2.1 0 (by omega)).1
    have hfz0 := (hrow0.at_.2.2.1 0 (by omega)).2
    have hrow1 := hrow0.set (j := 0) (by omega) (.int .u8 128)
    rw [Nat.zero_add] at hu0 hfz0 hrow1
    rw [World.setCell_alloc_at _ _ _ _ _ rfl] at hrow1
    have hbx1 := HBX.out.alloc HBX.out.size (.cells ((madeCells #[.int .u8 0] 72).setIfInBounds 0 (.int .u8 128)) 5)
    have hbn : Below wc.heap.size wc (wc.alloc (.cells ((madeCells #[.int .u8 0] 72).setIfInBounds 0 (.int .u8 128)) 5)) := (Below.refl _ _).alloc (Nat.le_refl _) _
    have e0 : (List.replicate (1 + K) (Value.int .u8 0)).set 0 (.int .u8 128) = bv (128 :: (List.replicate K 0 ++ (Sha.eight (8 * (l.length : Int))).take 0)) := by
      rw [Nat.add_comm 1 K, List.replicate_succ]
      simp [bv]
    rw [e0] at hrow1
    have HST := Lib.hid (show PadRel wc K (8 * (l.length : Int)) (.slice (some ⟨wc.heap.size, 0, none⟩) (1 + K) 72) (.int .i64 0) _ from ⟨0, _, _, Nat.zero_le _, rfl, rfl, hrow1, hbn⟩)
    clear hrow0 hrow1 e0 hbn hbx1
    go_wp2_with fail
    go_loopw [5, 6, 37] (fun s5 _ i wr => PadRel wc K (8 * (l.length : Int)) s5 i wr) (fun _ _ i _ => 8 - (intOf i).toNat)
    case atStart => exact HST.out
    case round =>
      clear HST hu0 hfz0 hmk
      obtain ⟨k, A', c', hk, rfl, rfl, hrow, hbel⟩ := hrel
      have hsz := hbel.size
      by_cases hlt : k < 8
      · have HBEL := Lib.hid hbel
        have HROW2 := Lib.hid hrow
        clear hbel hrow
        go_wp2_with (at_builtin; refine wpList_append_row rfl (.tmp 40) (.tmp 47) rfl Tryz.underlying27 hi hz0 hz1 hz2 rfl (by decide) rfl (HROW2.out.alloc _) rfl (Reads.lit _ _ _ (n := 1) rfl) (by intro v hv; simp at hv; rcases hv with rfl; rfl) (by unfold maxLen; omega) (by omega) (by simp; omega) ?_; intro A2 c2 w2 hrow2 hgr2 hat2; have HB2 := Lib.hid (below_append HBEL.out hsz HROW2.out hgr2); have HR2 := Lib.hid hrow2; clear hrow2 hgr2 hat2)
        go_roundw
        case rel => exact ⟨_, _, _, pad_next hlt HR2.out HB2.out, rfl, rfl, rfl⟩
        case measure => simp [intOf]; omega
      · obtain rfl : k = 8 := by omega
        have hrow' := hrow
        rw [show (Sha.eight (8 * (l.length : Int))).take 8 = Sha.eight (8 * (l.length : Int)) from rfl, pad_all HK.out HN.out] at hrow'
        have hpl : (Sha.pad l.length).length = 1 + K + 8 := by have := hrow'.1; rw [length_bv] at this; omega
        have hA2 : ∀ ad, A' = some ad → wc.heap.size ≤ ad.block ∧ ad.block < wr.heap.size := fun ad e => hrow.lt ad e
        have hpart : Part wr (fun k => ∃ ad, A' = some ad ∧ k = ad.block) (.slice A' (1 + K + 8) c') (Sha.pad l.length) := Part.of_row hrow' (by omega) (fun ad e => ⟨ad, e, rfl⟩)
        have hparts := Parts.one (t := 27) hpart (fun k ⟨ad, e, hk⟩ => by rw [hk]; exact (hA2 ad e).2)
        have hx := HASH.out.grew (S := fun _ => False) (Grew.of_new hbel) (fun h => h) (fun _ _ h => h)
        have hx2 := hx.alloc (.cells #[.slice A' (1 + K + 8) c'] 27)
        have hebl := HASH.out.lt
        have HX3 := Lib.hid hx2
        have HPARTS := Lib.hid hparts
        have HPL := Lib.hid hpl
        have HA2 := Lib.hid hA2
        have HBEL := Lib.hid hbel
        clear hrow hrow' hpl hA2 hpart hparts hx hx2 hbel
        go_wp2_with fail
        refine (Write_any eb X2 l [Sha.pad l.length] _ _ _ _ 0 HX3.out HPARTS.out (fun k hk => ?_) (by simp) (by simp [HPL.out]; omega)).mono ?_
        · have hb2 := HBX.out
          rcases hk with ⟨ad, e, rfl⟩ | rfl
          · have h1 := HA2.out ad e
            exact ⟨by simp; omega, by omega, fun h => by have := (HX2.out _ h).2; omega⟩
          · exact ⟨by simp, by omega, fun h => by have := (HX2.out _ h).2; omega⟩
        rintro e w5 ⟨rfl, hash5, hgr5⟩
        simp only [List.flatten_cons, List.flatten_nil, List.append_nil] at hash5
        obtain ⟨A5, n5, c5, hblk5, _, _, _⟩ := hash5
        have hb5 : Below w.heap.size w w5 := by
          have h1 := HBX.out.trans (HBEL.out.mono HBX.out.size)
          have h2 := HBX.out.size
          refine (h1.alloc h1.size (.cells #[.slice A' (1 + K + 8) c'] 27)).trans (hgr5.below (by simp; omega) fun k _ hk => ?_)
          rcases hk with rfl | hk
          · exact heb
          · exact (HX2.out k hk).1
        have hfin : (Sha.run Sha.start (l ++ Sha.pad l.length)).bytes = Sha.sum l := rfl
        have hok5 := Sha.run_ok Sha.start_ok (l ++ Sha.pad l.length)
        generalize Sha.run Sha.start (l ++ Sha.pad l.length) = s5 at hblk5 hfin hok5
        have d0 : w5.cell? ⟨eb, 0, none⟩ = some (.int .u32 (s5.a : Int)) := hblk5.cell 0
        have d1 : w5.cell? ⟨eb, 1, none⟩ = some (.int .u32 (s5.b : Int)) := hblk5.cell 1
        have d2 : w5.cell? ⟨eb, 2, none⟩ = some (.int .u32 (s5.c : Int)) := hblk5.cell 2
        have d3 : w5.cell? ⟨eb, 3, none⟩ = some (.int .u32 (s5.d : Int)) := hblk5.cell 3
        have d4 : w5.cell? ⟨eb, 4, none⟩ = some (.int .u32 (s5.e : Int)) := hblk5.cell 4
        have d5 : w5.cell? ⟨eb, 5, none⟩ = some (.int .u32 (s5.f : Int)) := hblk5.cell 5
        have d6 : w5.cell? ⟨eb, 6, none⟩ = some (.int .u32 (s5.g : Int)) := hblk5.cell 6
        have d7 : w5.cell? ⟨eb, 7, none⟩ = some (.int .u32 (s5.h : Int)) := hblk5.cell 7
        have HFIN := Lib.hid hfin
        have HB5 := Lib.hid hb5
        clear hfin hb5 hblk5 hgr5
        go_wp2_with fail
        clear d0 d1 d2 d3 d4 d5 d6 d7
        go_loopw [7, 9, 55] (fun s7 _ i wr => DigRel w5 s5 s7 i wr) (fun _ _ i _ => 8 - (intOf i).toNat)
        case atStart => exact ⟨0, none, 0, Nat.zero_le _, rfl, rfl, Row.nil_ _ _ _, Below.refl _ _⟩
        case round =>
          obtain ⟨k, A6, c6, hk, rfl, rfl, hrow, hbel⟩ := hrel
          have hsz6 := hbel.size
          by_cases hlt : k < 8
          · have HBEL6 := Lib.hid hbel
            have HROW6 := Lib.hid hrow
            have hix := ix8 s5 k hlt
            have hxl : s5.list.getD k 0 < 4294967296 := Sha.list_lt hok5 k
            generalize hx : s5.list.getD k 0 = x at hix hxl
            have HX := Lib.hid hx
            clear hbel hrow hx
            go_wp2_with (at_builtin; refine wpList_append_row rfl (.tmp 58) (.tmp 70) rfl Tryz.underlying27 hi hz0 hz1 hz2 rfl (by decide) rfl (HROW6.out.alloc _) rfl (Reads.lit _ _ _ (n := 4) rfl) (by intro v hv; simp at hv; rcases hv with rfl | rfl | rfl | rfl <;> rfl) (by unfold maxLen; omega) (by omega) (by simp; omega) ?_; intro A7 c7 w7 hrow7 hgr7 hat7; have HB7 := Lib.hid (below_append HBEL6.out hsz6 HROW6.out hgr7); have HR7 := Lib.hid hrow7; clear hrow7 hgr7 hat7)
            go_roundw
            case rel => exact dig_next hlt HX.out hxl HR7.out HB7.out
            case measure => simp [intOf]; omega
          · obtain rfl : k = 8 := by omega
            have h8 : (s5.list.take 8).flatMap Sha.out4 = Sha.sum l := by rw [← HFIN.out, Sha.bytes_flat]; rfl
            rw [h8] at hrow
            have HROW6 := Lib.hid hrow
            have HBEL6 := Lib.hid hbel
            have hs5 := HB5.out.size
            clear hrow hbel h8 hok5
            go_wp2_with fail
            go_ret
            exact ⟨A6, c6, rfl, HROW6.out.mono hs5, HB5.out.trans (HBEL6.out.mono hs5)⟩
end Go.Proofs.YtogpnlfbdhddmaaGreatDoor
namespace Go.Proofs.YtogpnlfbdhddmaaGreatDoor
open Go.RowKit

set_option maxHeartbeats 1000000 in
theorem sSum_any (L : List (List UInt8)) (PA : Option Addr) (pc : Nat) (R : Nat → Prop) (w : World) (hp : Parts w R PA L) (hR : ∀ k, R k → k < w.heap.size) (hlen : L.length ≤ 140737488351232) (hsum : L.flatten.length ≤ 1152921504606846976) :
    Calls Tryz.prog 166 #[.slice PA L.length pc] w fun e w' => RowOut (Sha.sum L.flatten) w e w' := by
  have HP := Lib.hid hp
  have HR := Lib.hid hR
  clear hp hR
  go_enter Tryz.func166, Tryz.ntmps166
  go_wp2_with fail
  refine (New_any w).mono ?_
  rintro e w1 ⟨rfl, hh, hb1, hs1⟩
  have HH := Lib.hid (hh (fun _ => False))
  clear hh
  generalize hn : w1.heap.size - 1 = hb at HH
  have hhb : hb < w1.heap.size := HH.out.lt
  have hbn : w.heap.size ≤ hb := by omega
  have HB1 := Lib.hid hb1
  clear hb1 hn
  go_wp2_with fail
  refine (Write_any hb (fun _ => False) [] L PA pc R w1 0 HH.out (HP.out.keep fun k hk => HB1.out.block k (HR.out k hk)) (fun k hk => by have := HR.out k hk; exact ⟨by omega, by omega, fun h => h⟩) hlen (by omega)).mono ?_
  rintro e w2 ⟨rfl, hh2, hg2⟩
  rw [List.nil_append, Nat.zero_add] at hh2
  have HH2 := Lib.hid hh2
  have HG2 := Lib.hid hg2
  clear hh2 hg2
  go_wp2_with fail
  refine (HSum_any hb _ L.flatten w2 HH2.out hsum).mono ?_
  rintro e w3 ⟨A, c, rfl, hrow, hb3⟩
  have HROW := Lib.hid hrow
  have HB3 := Lib.hid hb3
  clear hrow hb3
  go_wp2_with fail
  go_ret
  have hb2 : Below w.heap.size w w2 := HB1.out.trans (HG2.out.below (by omega) fun k _ hk => by rcases hk with rfl | hk; exact hbn; exact hk.elim)
  exact ⟨A, c, rfl, HROW.out.mono hb2.size, hb2.trans (HB3.out.mono hb2.size)⟩
end Go.Proofs.YtogpnlfbdhddmaaGreatDoor
