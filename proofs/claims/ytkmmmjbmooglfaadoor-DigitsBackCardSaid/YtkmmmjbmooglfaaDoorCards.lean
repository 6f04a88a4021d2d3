/-
  DERIVED. GIVEN WITH THE SEED: THE CARDS: each row of YtkmmmjbmooglfaaDoorRows.lean that lists a variable, with what it lists TIED to the program's text (the seventh form; the later family's looks); each row that meets fmt, with fmt's text TOLD by the authors' own Lean function (tested against real Go, not proved from fmt's source: count such statements apart). THE CARD IS WHAT COUNTS. Prove the row's statement (the work); the ties are given (YtkmmmjbmooglfaaDoorTie.lean); close each card by the builder's one call (the guide's Derived/Test/ToyasCard.lean, 'card_holds'). Laid BY PROGRAM, IN A SANDBOX (cutbox-door.mjs). By AI agents, Wed Nov 11 2026. No macro, syntax, notation, axiom, sorry.
-/
import Derived.Test.YtkmmmjbmooglfaaDoorRows
import GoSem.ClaimSeven
namespace Go.Proofs.YtkmmmjbmooglfaaDoor
namespace Rows

/-- THE TIED CARD OF 'moneyerlaw01.DigitsNumbers'. -/
def digitsNumbersCard : Claim7 := { stood := { row := digitsNumbersRow, standIns := [], harness := (true, "62784ba39d8a5c55fce32eea1ef34b28b6fe0c889408549a6e0aa529857ee489"), looks := false }, kinds := [], alts := [], laidByText := true, laidKinds := [.data, .pinned], laidTests := true, laidLooks := .later }
def DigitsNumbersCardSaid : Prop := Claim7.holds Tryd.pinned (.plain (OpenSpec.ofChange digitsNumbersSpec)) digitsNumbersCard

/-- THE TIED CARD OF 'moneyerlaw01.DigitsZeros'. -/
def digitsZerosCard : Claim7 := { stood := { row := digitsZerosRow, standIns := [], harness := (true, "62784ba39d8a5c55fce32eea1ef34b28b6fe0c889408549a6e0aa529857ee489"), looks := false }, kinds := [], alts := [], laidByText := true, laidKinds := [.data, .pinned], laidTests := true, laidLooks := .later }
def DigitsZerosCardSaid : Prop := Claim7.holds Tryd.pinned (.plain (OpenSpec.ofChange digitsZerosSpec)) digitsZerosCard

/-- THE TIED CARD OF 'moneyerlaw01.DigitsBack'. -/
def digitsBackCard : Claim7 := { stood := { row := digitsBackRow, standIns := [], harness := (true, "62784ba39d8a5c55fce32eea1ef34b28b6fe0c889408549a6e0aa529857ee489"), looks := false }, kinds := [], alts := [], laidByText := true, laidKinds := [.data, .pinned], laidTests := true, laidLooks := .later }
def DigitsBackCardSaid : Prop := Claim7.holds Tryd.pinned (.plain (OpenSpec.ofChange digitsBackSpec)) digitsBackCard

/-- THE SECOND FORM's CARD OF 'moneyerlaw01.DigitsNumbers'. -/
def digitsNumbersUptoCard : Claim7 := { stood := { row := digitsNumbersUptoRow, standIns := [], harness := (true, "62784ba39d8a5c55fce32eea1ef34b28b6fe0c889408549a6e0aa529857ee489"), looks := false }, kinds := [], alts := [], laidByText := true, laidKinds := [.data, .pinned], laidTests := true, laidLooks := .later }
def DigitsNumbersUptoCardSaid : Prop := Claim7.holds Tryd.pinned (.plain (OpenSpec.upto digitsNumbersSpec)) digitsNumbersUptoCard

/-- THE SECOND FORM's CARD OF 'moneyerlaw01.DigitsZeros'. -/
def digitsZerosUptoCard : Claim7 := { stood := { row := digitsZerosUptoRow, standIns := [], harness := (true, "62784ba39d8a5c55fce32eea1ef34b28b6fe0c889408549a6e0aa529857ee489"), looks := false }, kinds := [], alts := [], laidByText := true, laidKinds := [.data, .pinned], laidTests := true, laidLooks := .later }
def DigitsZerosUptoCardSaid : Prop := Claim7.holds Tryd.pinned (.plain (OpenSpec.upto digitsZerosSpec)) digitsZerosUptoCard

/-- THE SECOND FORM's CARD OF 'moneyerlaw01.DigitsBack'. -/
def digitsBackUptoCard : Claim7 := { stood := { row := digitsBackUptoRow, standIns := [], harness := (true, "62784ba39d8a5c55fce32eea1ef34b28b6fe0c889408549a6e0aa529857ee489"), looks := false }, kinds := [], alts := [], laidByText := true, laidKinds := [.data, .pinned], laidTests := true, laidLooks := .later }
def DigitsBackUptoCardSaid : Prop := Claim7.holds Tryd.pinned (.plain (OpenSpec.upto digitsBackSpec)) digitsBackUptoCard
end Rows
end Go.Proofs.YtkmmmjbmooglfaaDoor
