/-
  DERIVED. GIVEN WITH THE SEED: THE CARDS: each row of YtdjpiccehloaiaaDoorRows.lean that lists a variable, with what it lists TIED to the program's text (the seventh form; the later family's looks); each row that meets fmt, with fmt's text TOLD by the authors' own Lean function (tested against real Go, not proved from fmt's source: count such statements apart). THE CARD IS WHAT COUNTS. Prove the row's statement (the work); the ties are given (YtdjpiccehloaiaaDoorTie.lean); close each card by the builder's one call (the guide's Derived/Test/ToyasCard.lean, 'card_holds'). Laid BY PROGRAM, IN A SANDBOX (cutbox-door.mjs). By AI agents, Wed Nov 11 2026. No macro, syntax, notation, axiom, sorry.
-/
import Derived.Test.YtdjpiccehloaiaaDoorRows
import GoSem.ClaimSeven
namespace Go.Proofs.YtdjpiccehloaiaaDoor
namespace Rows

/-- THE TIED CARD OF 'moneyerlaw13.KeysMakes'. -/
def keysMakesCard : Claim7 := { stood := { row := keysMakesRow, standIns := [], harness := (true, "8999bf54dc81a104172f5fee52be0c23aa96e440bfd3e12cf774495789454014"), looks := false }, kinds := [], alts := [], laidByText := true, laidKinds := [.data, .data, .data], laidTests := true, laidLooks := .later }
def KeysMakesCardSaid : Prop := Claim7.holds Tryd.pinned (.plain (OpenSpec.ofChange keysMakesSpec)) keysMakesCard

/-- THE TIED CARD OF 'moneyerlaw13.KeysFold'. -/
def keysFoldCard : Claim7 := { stood := { row := keysFoldRow, standIns := [], harness := (true, "8999bf54dc81a104172f5fee52be0c23aa96e440bfd3e12cf774495789454014"), looks := false }, kinds := [], alts := [], laidByText := true, laidKinds := [.data, .data, .data], laidTests := true, laidLooks := .later }
def KeysFoldCardSaid : Prop := Claim7.holds Tryd.pinned (.plain (OpenSpec.ofChange keysFoldSpec)) keysFoldCard

/-- THE TIED CARD OF 'moneyerlaw13.KeysAgain'. -/
def keysAgainCard : Claim7 := { stood := { row := keysAgainRow, standIns := [], harness := (true, "8999bf54dc81a104172f5fee52be0c23aa96e440bfd3e12cf774495789454014"), looks := false }, kinds := [], alts := [], laidByText := true, laidKinds := [.data, .data, .data], laidTests := true, laidLooks := .later }
def KeysAgainCardSaid : Prop := Claim7.holds Tryd.pinned (.plain (OpenSpec.ofChange keysAgainSpec)) keysAgainCard

/-- THE TIED CARD OF 'moneyerlaw13.KeysNames'. -/
def keysNamesCard : Claim7 := { stood := { row := keysNamesRow, standIns := [], harness := (true, "8999bf54dc81a104172f5fee52be0c23aa96e440bfd3e12cf774495789454014"), looks := false }, kinds := [], alts := [], laidByText := true, laidKinds := [.data, .data, .data], laidTests := true, laidLooks := .later }
def KeysNamesCardSaid : Prop := Claim7.holds Tryd.pinned (.plain (OpenSpec.ofChange keysNamesSpec)) keysNamesCard

/-- THE SECOND FORM's CARD OF 'moneyerlaw13.KeysMakes'. -/
def keysMakesUptoCard : Claim7 := { stood := { row := keysMakesUptoRow, standIns := [], harness := (true, "8999bf54dc81a104172f5fee52be0c23aa96e440bfd3e12cf774495789454014"), looks := false }, kinds := [], alts := [], laidByText := true, laidKinds := [.data, .data, .data], laidTests := true, laidLooks := .later }
def KeysMakesUptoCardSaid : Prop := Claim7.holds Tryd.pinned (.plain (OpenSpec.upto keysMakesSpec)) keysMakesUptoCard

/-- THE SECOND FORM's CARD OF 'moneyerlaw13.KeysFold'. -/
def keysFoldUptoCard : Claim7 := { stood := { row := keysFoldUptoRow, standIns := [], harness := (true, "8999bf54dc81a104172f5fee52be0c23aa96e440bfd3e12cf774495789454014"), looks := false }, kinds := [], alts := [], laidByText := true, laidKinds := [.data, .data, .data], laidTests := true, laidLooks := .later }
def KeysFoldUptoCardSaid : Prop := Claim7.holds Tryd.pinned (.plain (OpenSpec.upto keysFoldSpec)) keysFoldUptoCard

/-- THE SECOND FORM's CARD OF 'moneyerlaw13.KeysAgain'. -/
def keysAgainUptoCard : Claim7 := { stood := { row := keysAgainUptoRow, standIns := [], harness := (true, "8999bf54dc81a104172f5fee52be0c23aa96e440bfd3e12cf774495789454014"), looks := false }, kinds := [], alts := [], laidByText := true, laidKinds := [.data, .data, .data], laidTests := true, laidLooks := .later }
def KeysAgainUptoCardSaid : Prop := Claim7.holds Tryd.pinned (.plain (OpenSpec.upto keysAgainSpec)) keysAgainUptoCard

/-- THE SECOND FORM's CARD OF 'moneyerlaw13.KeysNames'. -/
def keysNamesUptoCard : Claim7 := { stood := { row := keysNamesUptoRow, standIns := [], harness := (true, "8999bf54dc81a104172f5fee52be0c23aa96e440bfd3e12cf774495789454014"), looks := false }, kinds := [], alts := [], laidByText := true, laidKinds := [.data, .data, .data], laidTests := true, laidLooks := .later }
def KeysNamesUptoCardSaid : Prop := Claim7.holds Tryd.pinned (.plain (OpenSpec.upto keysNamesSpec)) keysNamesUptoCard
end Rows
end Go.Proofs.YtdjpiccehloaiaaDoor
