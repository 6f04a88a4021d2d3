/-
  DERIVED. GIVEN WITH THE SEED: THE CARDS: each row of YtiijjpjkfiookaaDoorRows.lean that lists a variable, with what it lists TIED to the program's text (the seventh form; the later family's looks); each row that meets fmt, with fmt's text TOLD by the authors' own Lean function (tested against real Go, not proved from fmt's source: count such statements apart). THE CARD IS WHAT COUNTS. Prove the row's statement (the work); the ties are given (YtiijjpjkfiookaaDoorTie.lean); close each card by the builder's one call (the guide's Derived/Test/ToyasCard.lean, 'card_holds'). Laid BY PROGRAM, IN A SANDBOX (cutbox-door.mjs). By AI agents, Wed Nov 11 2026. No macro, syntax, notation, axiom, sorry.
-/
import Derived.Test.YtiijjpjkfiookaaDoorRows
import GoSem.ClaimSeven
namespace Go.Proofs.YtiijjpjkfiookaaDoor
namespace Rows

/-- THE TIED CARD OF 'moneyerlaw09.RadixNumerals'. -/
def radixNumeralsCard : Claim7 := { stood := { row := radixNumeralsRow, standIns := [], harness := (true, "14551869b0f183a1b31421c83a73f669e25c640c3407fff23b293981d11ee033"), looks := false }, kinds := [], alts := [], laidByText := true, laidKinds := [.data, .pinned], laidTests := true, laidLooks := .later }
def RadixNumeralsCardSaid : Prop := Claim7.holds Tryd.pinned (.plain (OpenSpec.ofChange radixNumeralsSpec)) radixNumeralsCard

/-- THE TIED CARD OF 'moneyerlaw09.RadixWidths'. -/
def radixWidthsCard : Claim7 := { stood := { row := radixWidthsRow, standIns := [], harness := (true, "14551869b0f183a1b31421c83a73f669e25c640c3407fff23b293981d11ee033"), looks := false }, kinds := [], alts := [], laidByText := true, laidKinds := [.data, .pinned], laidTests := true, laidLooks := .later }
def RadixWidthsCardSaid : Prop := Claim7.holds Tryd.pinned (.plain (OpenSpec.ofChange radixWidthsSpec)) radixWidthsCard

/-- THE TIED CARD OF 'moneyerlaw09.RadixGoes'. -/
def radixGoesCard : Claim7 := { stood := { row := radixGoesRow, standIns := [], harness := (true, "14551869b0f183a1b31421c83a73f669e25c640c3407fff23b293981d11ee033"), looks := false }, kinds := [], alts := [], laidByText := true, laidKinds := [.data, .pinned], laidTests := true, laidLooks := .later }
def RadixGoesCardSaid : Prop := Claim7.holds Tryd.pinned (.plain (OpenSpec.ofChange radixGoesSpec)) radixGoesCard

/-- THE TIED CARD OF 'moneyerlaw09.RadixSums'. -/
def radixSumsCard : Claim7 := { stood := { row := radixSumsRow, standIns := [], harness := (true, "14551869b0f183a1b31421c83a73f669e25c640c3407fff23b293981d11ee033"), looks := false }, kinds := [], alts := [], laidByText := true, laidKinds := [.data, .pinned], laidTests := true, laidLooks := .later }
def RadixSumsCardSaid : Prop := Claim7.holds Tryd.pinned (.plain (OpenSpec.ofChange radixSumsSpec)) radixSumsCard

/-- THE TIED CARD OF 'moneyerlaw09.RadixRests'. -/
def radixRestsCard : Claim7 := { stood := { row := radixRestsRow, standIns := [], harness := (true, "14551869b0f183a1b31421c83a73f669e25c640c3407fff23b293981d11ee033"), looks := false }, kinds := [], alts := [], laidByText := true, laidKinds := [.data, .pinned], laidTests := true, laidLooks := .later }
def RadixRestsCardSaid : Prop := Claim7.holds Tryd.pinned (.plain (OpenSpec.ofChange radixRestsSpec)) radixRestsCard

/-- THE TIED CARD OF 'moneyerlaw09.RadixBack'. -/
def radixBackCard : Claim7 := { stood := { row := radixBackRow, standIns := [], harness := (true, "14551869b0f183a1b31421c83a73f669e25c640c3407fff23b293981d11ee033"), looks := false }, kinds := [], alts := [], laidByText := true, laidKinds := [.data, .pinned], laidTests := true, laidLooks := .later }
def RadixBackCardSaid : Prop := Claim7.holds Tryd.pinned (.plain (OpenSpec.ofChange radixBackSpec)) radixBackCard

/-- THE TIED CARD OF 'moneyerlaw10.FfxBack'. -/
def ffxBackCard : Claim7 := { stood := { row := ffxBackRow, standIns := [], harness := (true, "14551869b0f183a1b31421c83a73f669e25c640c3407fff23b293981d11ee033"), looks := false }, kinds := [], alts := [], laidByText := true, laidKinds := [.data, .pinned], laidTests := true, laidLooks := .later }
def FfxBackCardSaid : Prop := Claim7.holds Tryd.pinned (.plain (OpenSpec.ofChange ffxBackSpec)) ffxBackCard

/-- THE TIED CARD OF 'moneyerlaw10.FfxAgain'. -/
def ffxAgainCard : Claim7 := { stood := { row := ffxAgainRow, standIns := [], harness := (true, "14551869b0f183a1b31421c83a73f669e25c640c3407fff23b293981d11ee033"), looks := false }, kinds := [], alts := [], laidByText := true, laidKinds := [.data, .pinned], laidTests := true, laidLooks := .later }
def FfxAgainCardSaid : Prop := Claim7.holds Tryd.pinned (.plain (OpenSpec.ofChange ffxAgainSpec)) ffxAgainCard

/-- THE TIED CARD OF 'moneyerlaw10.FfxRounds'. -/
def ffxRoundsCard : Claim7 := { stood := { row := ffxRoundsRow, standIns := [], harness := (true, "14551869b0f183a1b31421c83a73f669e25c640c3407fff23b293981d11ee033"), looks := false }, kinds := [], alts := [], laidByText := true, laidKinds := [.data, .pinned], laidTests := true, laidLooks := .later }
def FfxRoundsCardSaid : Prop := Claim7.holds Tryd.pinned (.plain (OpenSpec.ofChange ffxRoundsSpec)) ffxRoundsCard

/-- THE SECOND FORM's CARD OF 'moneyerlaw09.RadixNumerals'. -/
def radixNumeralsUptoCard : Claim7 := { stood := { row := radixNumeralsUptoRow, standIns := [], harness := (true, "14551869b0f183a1b31421c83a73f669e25c640c3407fff23b293981d11ee033"), looks := false }, kinds := [], alts := [], laidByText := true, laidKinds := [.data, .pinned], laidTests := true, laidLooks := .later }
def RadixNumeralsUptoCardSaid : Prop := Claim7.holds Tryd.pinned (.plain (OpenSpec.upto radixNumeralsSpec)) radixNumeralsUptoCard

/-- THE SECOND FORM's CARD OF 'moneyerlaw09.RadixWidths'. -/
def radixWidthsUptoCard : Claim7 := { stood := { row := radixWidthsUptoRow, standIns := [], harness := (true, "14551869b0f183a1b31421c83a73f669e25c640c3407fff23b293981d11ee033"), looks := false }, kinds := [], alts := [], laidByText := true, laidKinds := [.data, .pinned], laidTests := true, laidLooks := .later }
def RadixWidthsUptoCardSaid : Prop := Claim7.holds Tryd.pinned (.plain (OpenSpec.upto radixWidthsSpec)) radixWidthsUptoCard

/-- THE SECOND FORM's CARD OF 'moneyerlaw09.RadixGoes'. -/
def radixGoesUptoCard : Claim7 := { stood := { row := radixGoesUptoRow, standIns := [], harness := (true, "14551869b0f183a1b31421c83a73f669e25c640c3407fff23b293981d11ee033"), looks := false }, kinds := [], alts := [], laidByText := true, laidKinds := [.data, .pinned], laidTests := true, laidLooks := .later }
def RadixGoesUptoCardSaid : Prop := Claim7.holds Tryd.pinned (.plain (OpenSpec.upto radixGoesSpec)) radixGoesUptoCard

/-- THE SECOND FORM's CARD OF 'moneyerlaw09.RadixSums'. -/
def radixSumsUptoCard : Claim7 := { stood := { row := radixSumsUptoRow, standIns := [], harness := (true, "14551869b0f183a1b31421c83a73f669e25c640c3407fff23b293981d11ee033"), looks := false }, kinds := [], alts := [], laidByText := true, laidKinds := [.data, .pinned], laidTests := true, laidLooks := .later }
def RadixSumsUptoCardSaid : Prop := Claim7.holds Tryd.pinned (.plain (OpenSpec.upto radixSumsSpec)) radixSumsUptoCard

/-- THE SECOND FORM's CARD OF 'moneyerlaw09.RadixRests'. -/
def radixRestsUptoCard : Claim7 := { stood := { row := radixRestsUptoRow, standIns := [], harness := (true, "14551869b0f183a1b31421c83a73f669e25c640c3407fff23b293981d11ee033"), looks := false }, kinds := [], alts := [], laidByText := true, laidKinds := [.data, .pinned], laidTests := true, laidLooks := .later }
def RadixRestsUptoCardSaid : Prop := Claim7.holds Tryd.pinned (.plain (OpenSpec.upto radixRestsSpec)) radixRestsUptoCard

/-- THE SECOND FORM's CARD OF 'moneyerlaw09.RadixBack'. -/
def radixBackUptoCard : Claim7 := { stood := { row := radixBackUptoRow, standIns := [], harness := (true, "14551869b0f183a1b31421c83a73f669e25c640c3407fff23b293981d11ee033"), looks := false }, kinds := [], alts := [], laidByText := true, laidKinds := [.data, .pinned], laidTests := true, laidLooks := .later }
def RadixBackUptoCardSaid : Prop := Claim7.holds Tryd.pinned (.plain (OpenSpec.upto radixBackSpec)) radixBackUptoCard

/-- THE SECOND FORM's CARD OF 'moneyerlaw10.FfxBack'. -/
def ffxBackUptoCard : Claim7 := { stood := { row := ffxBackUptoRow, standIns := [], harness := (true, "14551869b0f183a1b31421c83a73f669e25c640c3407fff23b293981d11ee033"), looks := false }, kinds := [], alts := [], laidByText := true, laidKinds := [.data, .pinned], laidTests := true, laidLooks := .later }
def FfxBackUptoCardSaid : Prop := Claim7.holds Tryd.pinned (.plain (OpenSpec.upto ffxBackSpec)) ffxBackUptoCard

/-- THE SECOND FORM's CARD OF 'moneyerlaw10.FfxAgain'. -/
def ffxAgainUptoCard : Claim7 := { stood := { row := ffxAgainUptoRow, standIns := [], harness := (true, "14551869b0f183a1b31421c83a73f669e25c640c3407fff23b293981d11ee033"), looks := false }, kinds := [], alts := [], laidByText := true, laidKinds := [.data, .pinned], laidTests := true, laidLooks := .later }
def FfxAgainUptoCardSaid : Prop := Claim7.holds Tryd.pinned (.plain (OpenSpec.upto ffxAgainSpec)) ffxAgainUptoCard

/-- THE SECOND FORM's CARD OF 'moneyerlaw10.FfxRounds'. -/
def ffxRoundsUptoCard : Claim7 := { stood := { row := ffxRoundsUptoRow, standIns := [], harness := (true, "14551869b0f183a1b31421c83a73f669e25c640c3407fff23b293981d11ee033"), looks := false }, kinds := [], alts := [], laidByText := true, laidKinds := [.data, .pinned], laidTests := true, laidLooks := .later }
def FfxRoundsUptoCardSaid : Prop := Claim7.holds Tryd.pinned (.plain (OpenSpec.upto ffxRoundsSpec)) ffxRoundsUptoCard
end Rows
end Go.Proofs.YtiijjpjkfiookaaDoor
