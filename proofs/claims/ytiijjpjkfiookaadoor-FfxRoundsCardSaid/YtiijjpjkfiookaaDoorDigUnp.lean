/- PLAIN: unpacking. -/
import Derived.Test.YtiijjpjkfiookaaDoorDigPure
namespace Go.Proofs.YtiijjpjkfiookaaDoor
/-! ### unpacking -/
/-- A byte whose halves are digits. -/
def okB (c : UInt8) : Bool := decide (c.toNat / 16 ≤ 9 ∧ c.toNat % 16 ≤ 9)
theorem okB_iff {c : UInt8} : okB c = true ↔ c.toNat / 16 ≤ 9 ∧ c.toNat % 16 ≤ 9 := by simp [okB]
def unp (l : List UInt8) : List UInt8 := l.flatMap fun c => [sg (c.toNat / 16), sg (c.toNat % 16)]
theorem unp_snoc (l : List UInt8) (c : UInt8) : unp (l ++ [c]) = unp l ++ [sg (c.toNat / 16), sg (c.toNat % 16)] := by simp [unp]
theorem length_unp : ∀ (l : List UInt8), (unp l).length = 2 * l.length
  | [] => rfl
  | c :: l => by
    have := length_unp l
    have e : unp (c :: l) = [sg (c.toNat / 16), sg (c.toNat % 16)] ++ unp l := rfl
    rw [e, List.length_append, this]
    simp only [List.length_cons, List.length_nil]
    omega
/-- What Unpack says is wrong. -/
def unpackE (l : List UInt8) (n : Int) : Int :=
  if n < 0 then 1 else if 999 < n then 2 else if (l.length : Int) < (n + 1) / 2 then 3 else
  if (l.take ((n + 1) / 2).toNat).all okB = false then 4 else
  if n % 2 = 1 ∧ (unp (l.take ((n + 1) / 2).toNat)).head? ≠ some 48 then 4 else 0
/-- The digits that Unpack answers. -/
def unpackS (l : List UInt8) (n : Int) : List UInt8 := if unpackE l n = 0 then (unp (l.take ((n + 1) / 2).toNat)).drop (n % 2).toNat else []
/-- How many bytes they take. -/
def unpackK (l : List UInt8) (n : Int) : Int := if unpackE l n = 0 then (n + 1) / 2 else 0
theorem unpackE_neg {l : List UInt8} {n : Int} (h : n < 0) : unpackE l n = 1 := if_pos h
theorem unpackE_long {l : List UInt8} {n : Int} (h : 999 < n) : unpackE l n = 2 := by unfold unpackE; rw [if_neg (by omega), if_pos h]
theorem unpackE_end {l : List UInt8} {n : Int} (h0 : 0 ≤ n) (h1 : n ≤ 999) (h : (l.length : Int) < (n + 1) / 2) : unpackE l n = 3 := by
  unfold unpackE; rw [if_neg (by omega), if_neg (by omega), if_pos h]
theorem unpackE_form {l : List UInt8} {n : Int} (h0 : 0 ≤ n) (h1 : n ≤ 999) (h : ¬ (l.length : Int) < (n + 1) / 2) (hf : (l.take ((n + 1) / 2).toNat).all okB = false) : unpackE l n = 4 := by
  unfold unpackE; rw [if_neg (by omega), if_neg (by omega), if_neg h, if_pos hf]
theorem unpackE_odd {l : List UInt8} {n : Int} (h0 : 0 ≤ n) (h1 : n ≤ 999) (h : ¬ (l.length : Int) < (n + 1) / 2) (hf : (l.take ((n + 1) / 2).toNat).all okB = true) (h2 : n % 2 = 1 ∧ (unp (l.take ((n + 1) / 2).toNat)).head? ≠ some 48) : unpackE l n = 4 := by
  unfold unpackE; rw [if_neg (by omega), if_neg (by omega), if_neg h, if_neg (by rw [hf]; decide), if_pos h2]
theorem unpackE_ok {l : List UInt8} {n : Int} (h0 : 0 ≤ n) (h1 : n ≤ 999) (h : ¬ (l.length : Int) < (n + 1) / 2) (hf : (l.take ((n + 1) / 2).toNat).all okB = true) (h2 : ¬ (n % 2 = 1 ∧ (unp (l.take ((n + 1) / 2).toNat)).head? ≠ some 48)) : unpackE l n = 0 := by
  unfold unpackE; rw [if_neg (by omega), if_neg (by omega), if_neg h, if_neg (by rw [hf]; decide), if_neg h2]
theorem unpackS_no {l : List UInt8} {n : Int} (h : unpackE l n ≠ 0) : unpackS l n = [] := if_neg h
theorem unpackK_no {l : List UInt8} {n : Int} (h : unpackE l n ≠ 0) : unpackK l n = 0 := if_neg h
theorem unpackS_ok {l : List UInt8} {n : Int} (h : unpackE l n = 0) : unpackS l n = (unp (l.take ((n + 1) / 2).toNat)).drop (n % 2).toNat := if_pos h
theorem unpackK_ok {l : List UInt8} {n : Int} (h : unpackE l n = 0) : unpackK l n = (n + 1) / 2 := if_pos h
end Go.Proofs.YtiijjpjkfiookaaDoor
