/- GENERAL: append inside a region that draws its order. -/
import Derived.Test.YtiijjpjkfiookaaDoorRow
import Derived.Deep.RegionLaw
namespace Go.Proofs.YtiijjpjkfiookaaDoor
open Go.RowKit

theorem wp_append_row {P : Program} {o : Oper} {a : Act} {K : Act → World → Prop} {Q : Exit → Act → World → Prop} (s x : Operand) {t : TypeId}
    (ho : o.op = .call { callee := .builtin .append, args := #[s, x], argTypes := #[t, t] })
    {e : TypeId} {i : TypeInfo} {z : Value} {size bytes : Nat} (ht : P.underlying t = some (.slice e)) (hi : P.info? e = some i) (hz : i.zero = some z)
    (hsize : i.size = size) (hby : i.bytes = bytes) (hzs : z.cells.size = size) (hsz : 0 < size)
    {w : World} {base n cap : Nat} {A : Option Addr} {xs : List Value} (hs : a.eval s = .slice A n cap) (hd : Row w base size A n cap xs)
    {B m c : Nat} {A2 : Option Addr} {ys : List Value} (hx : a.eval x = .slice A2 m c) (hr : Reads w B size A2 m ys) (h1 : ∀ v ∈ ys, v.oneCell' = true)
    (h63 : n + m ≤ maxLen) (hbytes : (n + m) * bytes ≤ 140737488355328) (hbase : base ≤ w.heap.size)
    (h : ∀ A' cap' w', Row w' base size A' (n + m) cap' (xs ++ ys) → w.grownBy w' (A.map (·.block)) → (A' = A ∨ ∃ ad, A' = some ad ∧ w.heap.size ≤ ad.block) → K (a.put o.dst (.slice A' (n + m) cap')) w') :
    o.wp P a w K Q := by
  obtain ⟨A', cap', w', hrun, h2, h3, h4⟩ := run_append_row (P := P) (ty := o.type) (c := c) ht hi hz hsize hby hzs hsz hd hr h1 h63 hbytes hbase
  unfold Oper.wp execOp
  simp only [ho, resolve, invoke, builtin, Sem.run_bind, Sem.run_pure, Result.andThen_ok, List.map_toArray, List.map_cons, List.map_nil, hs, hx, hrun]
  exact h A' cap' w' h2 h3 h4

theorem step_append_row {P : Program} {ops : Array Oper} {o : Oper} {a : Act} {K : Act → World → Prop} {Q : Exit → Act → World → Prop} {E : Prop} (hgd : o.guard = none) (s x : Operand) {t : TypeId}
    (ho : o.op = .call { callee := .builtin .append, args := #[s, x], argTypes := #[t, t] })
    {e : TypeId} {i : TypeInfo} {z : Value} {size bytes : Nat} (ht : P.underlying t = some (.slice e)) (hi : P.info? e = some i) (hz : i.zero = some z)
    (hsize : i.size = size) (hby : i.bytes = bytes) (hzs : z.cells.size = size) (hsz : 0 < size)
    {w : World} {base n cap : Nat} {A : Option Addr} {xs : List Value} (hs : a.eval s = .slice A n cap) (hd : Row w base size A n cap xs)
    {B m c : Nat} {A2 : Option Addr} {ys : List Value} (hx : a.eval x = .slice A2 m c) (hr : Reads w B size A2 m ys) (h1 : ∀ v ∈ ys, v.oneCell' = true)
    (h63 : n + m ≤ maxLen) (hbytes : (n + m) * bytes ≤ 140737488355328) (hbase : base ≤ w.heap.size)
    (h : ∀ A' cap' w', Row w' base size A' (n + m) cap' (xs ++ ys) → w.grownBy w' (A.map (·.block)) → (A' = A ∨ ∃ ad, A' = some ad ∧ w.heap.size ≤ ad.block) → K (a.put o.dst (.slice A' (n + m) cap')) w') :
    if Region.wanted o (yielded ops a.tmps) = true then Oper.wp P o a w K Q else E := by
  have hw : Region.wanted o (yielded ops a.tmps) = true := by simp [Region.wanted, hgd]
  rw [if_pos hw]
  exact wp_append_row s x ho ht hi hz hsize hby hzs hsz hs hd hx hr h1 h63 hbytes hbase h
/-- What append may write lies from B on. -/
theorem Row.blocks {w : World} {base size n cap : Nat} {A : Option Addr} {xs : List Value} (h : Row w base size A n cap xs) : ∀ k, A.map (·.block) = some k → base ≤ k := fun k hk => by
  cases A with
  | none => cases hk
  | some ad => simp only [Option.map_some, Option.some.injEq] at hk; rw [← hk]; exact (h.lt ad rfl).1
end Go.Proofs.YtiijjpjkfiookaaDoor
