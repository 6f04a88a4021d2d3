/-
  No cell of these rows narrows 'for every input' (looked for: loops, veiled, ifaces, maps, wideKeys, modest, calm, conditions, laid).
  DERIVED. THE GIVEN ROWS OF THIS SEAT. 5 by the template 'for every input the law returns true; each argument reads behind the call as it read before'; 0 by the template 'total and deterministic' (their statements: YtkmmmjbmooglfaaTotals.lean).
  GIVEN WITH THE SEED: the statements are not yours to turn. If you find one false, say at which input.
  Laid BY PROGRAM, IN A SANDBOX (cutbox-rows.mjs): the forced cells as the released guide's own fill.sh prints them over the translation c2bf8d79c350ff30… (all of the seat's roots in one cut). By AI agents, Wed Nov 11 2026. No macro, syntax, notation, axiom, sorry.
-/
import Derived.Test.YtkmmmjbmooglfaaChecked
import GoSem.Claim
import GoSem.ClaimJoined
import GoSem.ClaimMapViews
import Derived.JoinedTies
import Derived.KernelRfl
namespace Go.Proofs.Ytkmmmjbmooglfaa
/- THE CELL 'sum', in the pinned program and in every row, IS THE sha256 OF THE DUMP (.gsa) THAT YtkmmmjbmooglfaaProg.lean LOADS. Nothing in Lean hashes anything: it is a label: what it is worth is what the hold of that sum in a sandbox is worth. -/
noncomputable def Try.pinned : Pinned := { name := "ytkmmmjbmooglfaa", sum := "c2bf8d79c350ff30a83ae929777481f18fc556c0c17e0d511301f811a6fb5eb5", checked := Try.checked }
namespace Rows
def none {H : Type} : Left H := { results := [], args := [] }

/-- 'moneyerlaw01.DigitsChecks': WHATEVER THE INPUT: true; the input reads as it did. -/
def digitsChecksSpec : ChangeSpec := { name := "digitsChecks", fn := fun _ => fun
  | [d] => { results := [.lit (.bool true)], args := [d] }
  | _ => none }
def digitsChecksRow : OpenClaim := { program := "ytkmmmjbmooglfaa", sum := "c2bf8d79c350ff30a83ae929777481f18fc556c0c17e0d511301f811a6fb5eb5", func := "moneyer/moneyerlaw01.DigitsChecks", spec := "digitsChecks", apart := false }
def DigitsChecksSaid : Prop := digitsChecksRow.holds Try.pinned (OpenSpec.ofChange digitsChecksSpec)

/-- ITS FALSE NEIGHBOUR: 'it returns false'. Refute it at one input. -/
def digitsChecksWrong : ChangeSpec := { name := "digitsChecks", fn := fun _ => fun
  | [d] => { results := [.lit (.bool false)], args := [d] }
  | _ => none }
def DigitsChecksWrongFalsely : Prop := digitsChecksRow.holds Try.pinned (OpenSpec.ofChange digitsChecksWrong)

/-- 'moneyerlaw01.DigitsTurned': WHATEVER THE INPUT: true; the input reads as it did. -/
def digitsTurnedSpec : ChangeSpec := { name := "digitsTurned", fn := fun _ => fun
  | [d1, d2, d3] => { results := [.lit (.bool true)], args := [d1, d2, d3] }
  | _ => none }
def digitsTurnedRow : OpenClaim := { program := "ytkmmmjbmooglfaa", sum := "c2bf8d79c350ff30a83ae929777481f18fc556c0c17e0d511301f811a6fb5eb5", func := "moneyer/moneyerlaw01.DigitsTurned", spec := "digitsTurned", apart := false }
def DigitsTurnedSaid : Prop := digitsTurnedRow.holds Try.pinned (OpenSpec.ofChange digitsTurnedSpec)

/-- ITS FALSE NEIGHBOUR: 'it returns false'. Refute it at one input. -/
def digitsTurnedWrong : ChangeSpec := { name := "digitsTurned", fn := fun _ => fun
  | [d1, d2, d3] => { results := [.lit (.bool false)], args := [d1, d2, d3] }
  | _ => none }
def DigitsTurnedWrongFalsely : Prop := digitsTurnedRow.holds Try.pinned (OpenSpec.ofChange digitsTurnedWrong)

/-- 'moneyerlaw01.DigitsEnds': WHATEVER THE INPUT: true; the input reads as it did. -/
def digitsEndsSpec : ChangeSpec := { name := "digitsEnds", fn := fun _ => fun
  | [d] => { results := [.lit (.bool true)], args := [d] }
  | _ => none }
def digitsEndsRow : OpenClaim := { program := "ytkmmmjbmooglfaa", sum := "c2bf8d79c350ff30a83ae929777481f18fc556c0c17e0d511301f811a6fb5eb5", func := "moneyer/moneyerlaw01.DigitsEnds", spec := "digitsEnds", apart := false }
def DigitsEndsSaid : Prop := digitsEndsRow.holds Try.pinned (OpenSpec.ofChange digitsEndsSpec)

/-- ITS FALSE NEIGHBOUR: 'it returns false'. Refute it at one input. -/
def digitsEndsWrong : ChangeSpec := { name := "digitsEnds", fn := fun _ => fun
  | [d] => { results := [.lit (.bool false)], args := [d] }
  | _ => none }
def DigitsEndsWrongFalsely : Prop := digitsEndsRow.holds Try.pinned (OpenSpec.ofChange digitsEndsWrong)

/-- 'moneyerlaw01.DigitsLast': WHATEVER THE INPUT: true; the input reads as it did. -/
def digitsLastSpec : ChangeSpec := { name := "digitsLast", fn := fun _ => fun
  | [d] => { results := [.lit (.bool true)], args := [d] }
  | _ => none }
def digitsLastRow : OpenClaim := { program := "ytkmmmjbmooglfaa", sum := "c2bf8d79c350ff30a83ae929777481f18fc556c0c17e0d511301f811a6fb5eb5", func := "moneyer/moneyerlaw01.DigitsLast", spec := "digitsLast", apart := false }
def DigitsLastSaid : Prop := digitsLastRow.holds Try.pinned (OpenSpec.ofChange digitsLastSpec)

/-- ITS FALSE NEIGHBOUR: 'it returns false'. Refute it at one input. -/
def digitsLastWrong : ChangeSpec := { name := "digitsLast", fn := fun _ => fun
  | [d] => { results := [.lit (.bool false)], args := [d] }
  | _ => none }
def DigitsLastWrongFalsely : Prop := digitsLastRow.holds Try.pinned (OpenSpec.ofChange digitsLastWrong)

/-- 'moneyerlaw01.DigitsPacks': WHATEVER THE INPUT: true; the input reads as it did. -/
def digitsPacksSpec : ChangeSpec := { name := "digitsPacks", fn := fun _ => fun
  | [d1, d2, d3] => { results := [.lit (.bool true)], args := [d1, d2, d3] }
  | _ => none }
def digitsPacksRow : OpenClaim := { program := "ytkmmmjbmooglfaa", sum := "c2bf8d79c350ff30a83ae929777481f18fc556c0c17e0d511301f811a6fb5eb5", func := "moneyer/moneyerlaw01.DigitsPacks", spec := "digitsPacks", apart := false }
def DigitsPacksSaid : Prop := digitsPacksRow.holds Try.pinned (OpenSpec.ofChange digitsPacksSpec)

/-- ITS FALSE NEIGHBOUR: 'it returns false'. Refute it at one input. -/
def digitsPacksWrong : ChangeSpec := { name := "digitsPacks", fn := fun _ => fun
  | [d1, d2, d3] => { results := [.lit (.bool false)], args := [d1, d2, d3] }
  | _ => none }
def DigitsPacksWrongFalsely : Prop := digitsPacksRow.holds Try.pinned (OpenSpec.ofChange digitsPacksWrong)

/- THE SECOND FORM. 'bulk': how many values and letters a reading holds, each counted each time it is reached (what is shared counts as often as it is met; a slice's spare places count too). A statement '..UptoSaid' is the law's where the arguments, and the package variables that the reading takes, are together of bulk at most 1048576: NARROWER than '..Said'. Prove '..Said' where nothing that the law and all that it calls make is longer than what came in: it says more and counts as full. Else prove '..UptoSaid'. A law counts once. -/
mutual
def uptoBulk {H : Type} : DataW H → Nat
  | .lit (.string bytes) => bytes.length + 1
  | .lit _ => 1
  | .nil => 1
  | .ptr d => uptoBulk d + 1
  | .slice elems spare => uptoBulkAll elems + uptoBulkAll spare + 1
  | .agg parts => uptoBulkAll parts + 1
  | .iface _ d => uptoBulk d + 1
  | .map entries => uptoBulkEntries entries + 1
  | .held _ => 1
def uptoBulkAll {H : Type} : List (DataW H) → Nat
  | [] => 0
  | d :: r => uptoBulk d + uptoBulkAll r
def uptoBulkEntries {H : Type} : List (Lit × DataW H) → Nat
  | [] => 0
  | x :: r => uptoBulkEntry x + uptoBulkEntries r
def uptoBulkEntry {H : Type} : Lit × DataW H → Nat
  | (.string bytes, d) => bytes.length + uptoBulk d + 1
  | (_, d) => uptoBulk d + 1
 end
def uptoSmall : (H : Type) → List (DataW H) → Bool := fun _ ds => decide (uptoBulkAll ds ≤ 1048576)
def OpenSpec.upto (s : _root_.Go.ChangeSpec) : _root_.Go.OpenSpec := { _root_.Go.OpenSpec.ofChange s with cond := some uptoSmall }

/-- 'moneyerlaw01.DigitsChecks', WHERE WHAT IT READS IS OF BULK AT MOST 1048576: true; the input reads as it did. -/
def digitsChecksUptoRow : OpenClaim := { program := "ytkmmmjbmooglfaa", sum := "c2bf8d79c350ff30a83ae929777481f18fc556c0c17e0d511301f811a6fb5eb5", func := "moneyer/moneyerlaw01.DigitsChecks", spec := "digitsChecks", apart := false, narrowed := true }
def DigitsChecksUptoSaid : Prop := digitsChecksUptoRow.holds Try.pinned (OpenSpec.upto digitsChecksSpec)

/-- 'moneyerlaw01.DigitsTurned', WHERE WHAT IT READS IS OF BULK AT MOST 1048576: true; the input reads as it did. -/
def digitsTurnedUptoRow : OpenClaim := { program := "ytkmmmjbmooglfaa", sum := "c2bf8d79c350ff30a83ae929777481f18fc556c0c17e0d511301f811a6fb5eb5", func := "moneyer/moneyerlaw01.DigitsTurned", spec := "digitsTurned", apart := false, narrowed := true }
def DigitsTurnedUptoSaid : Prop := digitsTurnedUptoRow.holds Try.pinned (OpenSpec.upto digitsTurnedSpec)

/-- 'moneyerlaw01.DigitsEnds', WHERE WHAT IT READS IS OF BULK AT MOST 1048576: true; the input reads as it did. -/
def digitsEndsUptoRow : OpenClaim := { program := "ytkmmmjbmooglfaa", sum := "c2bf8d79c350ff30a83ae929777481f18fc556c0c17e0d511301f811a6fb5eb5", func := "moneyer/moneyerlaw01.DigitsEnds", spec := "digitsEnds", apart := false, narrowed := true }
def DigitsEndsUptoSaid : Prop := digitsEndsUptoRow.holds Try.pinned (OpenSpec.upto digitsEndsSpec)

/-- 'moneyerlaw01.DigitsLast', WHERE WHAT IT READS IS OF BULK AT MOST 1048576: true; the input reads as it did. -/
def digitsLastUptoRow : OpenClaim := { program := "ytkmmmjbmooglfaa", sum := "c2bf8d79c350ff30a83ae929777481f18fc556c0c17e0d511301f811a6fb5eb5", func := "moneyer/moneyerlaw01.DigitsLast", spec := "digitsLast", apart := false, narrowed := true }
def DigitsLastUptoSaid : Prop := digitsLastUptoRow.holds Try.pinned (OpenSpec.upto digitsLastSpec)

/-- 'moneyerlaw01.DigitsPacks', WHERE WHAT IT READS IS OF BULK AT MOST 1048576: true; the input reads as it did. -/
def digitsPacksUptoRow : OpenClaim := { program := "ytkmmmjbmooglfaa", sum := "c2bf8d79c350ff30a83ae929777481f18fc556c0c17e0d511301f811a6fb5eb5", func := "moneyer/moneyerlaw01.DigitsPacks", spec := "digitsPacks", apart := false, narrowed := true }
def DigitsPacksUptoSaid : Prop := digitsPacksUptoRow.holds Try.pinned (OpenSpec.upto digitsPacksSpec)

end Rows
end Go.Proofs.Ytkmmmjbmooglfaa
