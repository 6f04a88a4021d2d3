/- THE WALKS of bytes.Clone and slices.Clone of bytes; what a result in a new row reads. -/
import Derived.Test.YtnhcabcpdlgdaaaDoorGrew
import Derived.Test.YtnhcabcpdlgdaaaDoorLent
namespace Go.Proofs.YtnhcabcpdlgdaaaDoor
open Go.RowKit

/-- The call hands back a new row that reads l; nothing old has turned. -/
def RowOut (l : List UInt8) (w : World) (e : Ending) (w' : World) : Prop :=
  ∃ A c, e = .returned (.slice A l.length c) ∧ Row w' w.heap.size 1 A l.length c (bv l) ∧ Below w.heap.size w w'

theorem reads_none {w : World} {B size n : Nat} {xs : List Value} (h : Reads w B size none n xs) : n = 0 := by
  rcases Nat.eq_zero_or_pos n with h0 | h0
  · exact h0
  · obtain ⟨_, _, e, _⟩ := h.2 h0; cases e


/-! ### append behind a guard -/
theorem wpList_if {P : Program} {ops : Array Oper} {rest : List Oper} {o : Oper} {a : Act} {w : World} {Q : Exit → Act → World → Prop} (hw : Region.wanted o (yielded ops a.tmps) = true)
    (h : ∀ K, (∀ a' w', wpList P ops Q rest a' w' → K a' w') → o.wp P a w K Q) : wpList P ops Q (o :: rest) a w := by
  unfold wpList
  rw [if_pos hw]
  exact .inl (h _ fun _ _ hk => hk)
theorem wpList_append_rowG {P : Program} {ops : Array Oper} {rest : List Oper} {o : Oper} {a : Act} {Q : Exit → Act → World → Prop} (hgd : Region.wanted o (yielded ops a.tmps) = true) (s x : Operand) {t : TypeId}
    (ho : o.op = .call { callee := .builtin .append, args := #[s, x], argTypes := #[t, t] })
    {e : TypeId} {i : TypeInfo} {z : Value} {size bytes : Nat} (ht : P.underlying t = some (.slice e)) (hi : P.info? e = some i) (hz : i.zero = some z)
    (hsize : i.size = size) (hby : i.bytes = bytes) (hzs : z.cells.size = size) (hsz : 0 < size)
    {w : World} {base n cap : Nat} {A : Option Addr} {xs : List Value} (hs : a.eval s = .slice A n cap) (hd : Row w base size A n cap xs)
    {B m c : Nat} {A2 : Option Addr} {ys : List Value} (hx : a.eval x = .slice A2 m c) (hr : Reads w B size A2 m ys) (h1 : ∀ v ∈ ys, v.oneCell' = true)
    (h63 : n + m ≤ maxLen) (hbytes : (n + m) * bytes ≤ 140737488355328) (hbase : base ≤ w.heap.size)
    (h : ∀ A' cap' w', Row w' base size A' (n + m) cap' (xs ++ ys) → w.grownBy w' (A.map (·.block)) → (A' = A ∨ ∃ ad, A' = some ad ∧ w.heap.size ≤ ad.block) → wpList P ops Q rest (a.put o.dst (.slice A' (n + m) cap')) w') :
    wpList P ops Q (o :: rest) a w :=
  wpList_if hgd fun _ hK => wp_append_row s x ho ht hi hz hsize hby hzs hsz hs hd hx hr h1 h63 hbytes hbase fun A' cap' w' h2 h3 h4 => hK _ _ (h A' cap' w' h2 h3 h4)
end Go.Proofs.YtnhcabcpdlgdaaaDoor
