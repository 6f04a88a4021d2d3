/- THE WALKS of bytes.Clone and slices.Clone of bytes; what a result in a new row reads. -/
import Derived.Test.YtiijjpjkfiookaaDoorGrew
import Derived.Test.YtiijjpjkfiookaaDoorLent
namespace Go.Proofs.YtiijjpjkfiookaaDoor
open Go.RowKit

/-- The call hands back a new row that reads l; nothing old has turned. -/
def RowOut (l : List UInt8) (w : World) (e : Ending) (w' : World) : Prop :=
  ∃ A c, e = .returned (.slice A l.length c) ∧ Row w' w.heap.size 1 A l.length c (bv l) ∧ Below w.heap.size w w'

theorem reads_none {w : World} {B size n : Nat} {xs : List Value} (h : Reads w B size none n xs) : n = 0 := by
  rcases Nat.eq_zero_or_pos n with h0 | h0
  · exact h0
  · obtain ⟨_, _, e, _⟩ := h.2 h0; cases e

set_option maxHeartbeats 1000000 in
theorem bClone_any (A : Option Addr) (n c B : Nat) (l : List UInt8) (w : World) (hr : Reads w B 1 A n (bv l)) (hB : B ≤ w.heap.size) (hn : n ≤ 140737488355328) :
    Calls Tryd.prog 44 #[.slice A n c] w fun e w' => RowOut l w e w' := by
  have hll : l.length = n := by have := hr.1; rw [length_bv] at this; omega
  have heq := fun W => Lib.run_eql_slice_nil (P := Tryd.prog) W 32 5 A n c 0 0 Tryd.underlying32
  cases A with
  | none =>
    have h0 := reads_none hr
    subst h0
    have hl0 : l = [] := List.eq_nil_of_length_eq_zero hll
    subst hl0
    clear hll
    go_enter Tryd.func44, Tryd.ntmps44
    go_wp2
    go_ret
    exact ⟨none, 0, rfl, Row.nil_ _ _ _, Below.refl _ _⟩
  | some ad =>
    obtain ⟨i0, hi, hz0, hz1, hz2⟩ := info_parts byte_info
    have HLL := Lib.hid hll
    clear hll
    go_enter Tryd.func44, Tryd.ntmps44
    go_wp2_with (at_builtin; refine wpList_append_row rfl (.tmp 5) (.tmp 6) rfl Tryd.underlying32 hi hz0 hz1 hz2 rfl (by decide) rfl (Row.lit w #[] 5 (n := 0) (base := w.heap.size) (size := 1) rfl (Nat.le_refl _) (by unfold maxLen; omega)) rfl (hr.alloc hB _) (bv_one l) (by unfold maxLen; omega) (by omega) (by simp) ?_; intro A2 c2 w2 hrow2 hgr2 hat2)
    go_ret
    refine ⟨A2, c2, by rw [HLL.out]; rfl, by rw [HLL.out]; simpa using hrow2, ?_⟩
    exact ((Below.refl _ _).alloc (Nat.le_refl _) _).trans (Grew.below (S := fun k => w.heap.size ≤ k) (Grew.of_grown hgr2 (fun k hk _ => by simp at hk; omega)) (by simp) (fun k _ hk => hk))

/-! ### append behind a guard -/
theorem wpList_if {P : Program} {ops : Array Oper} {rest : List Oper} {o : Oper} {a : Act} {w : World} {Q : Exit → Act → World → Prop} (hw : Region.wanted o (yielded ops a.tmps) = true)
    (h : ∀ K, (∀ a' w', wpList P ops Q rest a' w' → K a' w') → o.wp P a w K Q) : wpList P ops Q (o :: rest) a w := by
  unfold wpList
  rw [if_pos hw]
  exact .inl (h _ fun _ _ hk => hk)
theorem wpList_append_rowG {P : Program} {ops : Array Oper} {rest : List Oper} {o : Oper} {a : Act} {Q : Exit → Act → World → Prop} (hgd : Region.wanted o (yielded ops a.tmps) = true) (s x : Operand) {t : TypeId}
    (ho : o.op = .call { callee := .builtin .append, args := #[s, x], argTypes := #[t, t] })
    {e : TypeId} {i : TypeInfo} {z : Value} {size bytes : Nat} (ht : P.underlying t = some (.slice e)) (hi : P.info? e = some i) (hz : i.zero = some z)
    (hsize : i.size = size) (hby : i.bytes = bytes) (hzs : z.cells.size = size) (hsz : 0 < size)
    {w : World} {base n cap : Nat} {A : Option Addr} {xs : List Value} (hs : a.eval s = .slice A n cap) (hd : Row w base size A n cap xs)
    {B m c : Nat} {A2 : Option Addr} {ys : List Value} (hx : a.eval x = .slice A2 m c) (hr : Reads w B size A2 m ys) (h1 : ∀ v ∈ ys, v.oneCell' = true)
    (h63 : n + m ≤ maxLen) (hbytes : (n + m) * bytes ≤ 140737488355328) (hbase : base ≤ w.heap.size)
    (h : ∀ A' cap' w', Row w' base size A' (n + m) cap' (xs ++ ys) → w.grownBy w' (A.map (·.block)) → (A' = A ∨ ∃ ad, A' = some ad ∧ w.heap.size ≤ ad.block) → wpList P ops Q rest (a.put o.dst (.slice A' (n + m) cap')) w') :
    wpList P ops Q (o :: rest) a w :=
  wpList_if hgd fun _ hK => wp_append_row s x ho ht hi hz hsize hby hzs hsz hs hd hx hr h1 h63 hbytes hbase fun A' cap' w' h2 h3 h4 => hK _ _ (h A' cap' w' h2 h3 h4)
end Go.Proofs.YtiijjpjkfiookaaDoor
