/-
  DERIVED. GIVEN WITH THE SEED: THE CARDS: each row of YtiijjpjkfiookaaGreatDoorRows.lean that lists a variable, with what it lists TIED to the program's text (the seventh form; the later family's looks); each row that meets fmt, with fmt's text TOLD by the authors' own Lean function (tested against real Go, not proved from fmt's source: count such statements apart). THE CARD IS WHAT COUNTS. Prove the row's statement (the work); the ties are given (YtiijjpjkfiookaaGreatDoorTie.lean); close each card by the builder's one call (the guide's Derived/Test/ToyasCard.lean, 'card_holds'). Laid BY PROGRAM, IN A SANDBOX (cutbox-door.mjs). By AI agents, Wed Nov 11 2026. No macro, syntax, notation, axiom, sorry.
-/
import Derived.Test.YtiijjpjkfiookaaGreatDoorRows
import GoSem.ClaimSeven
namespace Go.Proofs.YtiijjpjkfiookaaGreatDoor
namespace Rows

/-- THE TIED CARD OF 'moneyerlaw10.FfxCodes'. -/
def ffxCodesCard : Claim7 := { stood := { row := ffxCodesRow, standIns := [], harness := (true, "8919129bebe43d6bb22dbfcb77ada2032ecb18146e9d55c81831550143ba0b38"), looks := false }, kinds := [], alts := [], laidByText := true, laidKinds := [.data, .pinned], laidTests := true, laidLooks := .later }
def FfxCodesCardSaid : Prop := Claim7.holds Tryz.pinned (.plain (OpenSpec.ofChange ffxCodesSpec)) ffxCodesCard

/-- THE TIED CARD OF 'moneyerlaw10.FfxMasks'. -/
def ffxMasksCard : Claim7 := { stood := { row := ffxMasksRow, standIns := [], harness := (true, "8919129bebe43d6bb22dbfcb77ada2032ecb18146e9d55c81831550143ba0b38"), looks := false }, kinds := [], alts := [], laidByText := true, laidKinds := [.data, .pinned], laidTests := true, laidLooks := .later }
def FfxMasksCardSaid : Prop := Claim7.holds Tryz.pinned (.plain (OpenSpec.ofChange ffxMasksSpec)) ffxMasksCard

/-- THE SECOND FORM's CARD OF 'moneyerlaw10.FfxCodes'. -/
def ffxCodesUptoCard : Claim7 := { stood := { row := ffxCodesUptoRow, standIns := [], harness := (true, "8919129bebe43d6bb22dbfcb77ada2032ecb18146e9d55c81831550143ba0b38"), looks := false }, kinds := [], alts := [], laidByText := true, laidKinds := [.data, .pinned], laidTests := true, laidLooks := .later }
def FfxCodesUptoCardSaid : Prop := Claim7.holds Tryz.pinned (.plain (OpenSpec.upto ffxCodesSpec)) ffxCodesUptoCard

/-- THE SECOND FORM's CARD OF 'moneyerlaw10.FfxMasks'. -/
def ffxMasksUptoCard : Claim7 := { stood := { row := ffxMasksUptoRow, standIns := [], harness := (true, "8919129bebe43d6bb22dbfcb77ada2032ecb18146e9d55c81831550143ba0b38"), looks := false }, kinds := [], alts := [], laidByText := true, laidKinds := [.data, .pinned], laidTests := true, laidLooks := .later }
def FfxMasksUptoCardSaid : Prop := Claim7.holds Tryz.pinned (.plain (OpenSpec.upto ffxMasksSpec)) ffxMasksUptoCard
end Rows
end Go.Proofs.YtiijjpjkfiookaaGreatDoor
