/-
  DERIVED. GIVEN WITH THE SEED: THE CARDS: each row of YtnhcabcpdlgdaaaDoorRows.lean that lists a variable, with what it lists TIED to the program's text (the seventh form; the later family's looks); each row that meets fmt, with fmt's text TOLD by the authors' own Lean function (tested against real Go, not proved from fmt's source: count such statements apart). THE CARD IS WHAT COUNTS. Prove the row's statement (the work); the ties are given (YtnhcabcpdlgdaaaDoorTie.lean); close each card by the builder's one call (the guide's Derived/Test/ToyasCard.lean, 'card_holds'). Laid BY PROGRAM, IN A SANDBOX (cutbox-door.mjs). By AI agents, Wed Nov 11 2026. No macro, syntax, notation, axiom, sorry.
-/
import Derived.Test.YtnhcabcpdlgdaaaDoorRows
import GoSem.ClaimSeven
namespace Go.Proofs.YtnhcabcpdlgdaaaDoor
namespace Rows

/-- THE TIED CARD OF 'moneyerlaw11.PanCuts'. -/
def panCutsCard : Claim7 := { stood := { row := panCutsRow, standIns := [], harness := (true, "c64234594f096b8509de7b338533caf0871d5c7c4d9e74484273f04b827f93dc"), looks := false }, kinds := [], alts := [], laidByText := true, laidKinds := [.data, .data, .data, .data, .pinned], laidTests := true, laidLooks := .later }
def PanCutsCardSaid : Prop := Claim7.holds Tryd.pinned (.plain (OpenSpec.ofChange panCutsSpec)) panCutsCard

/-- THE TIED CARD OF 'moneyerlaw11.PanTokens'. -/
def panTokensCard : Claim7 := { stood := { row := panTokensRow, standIns := [], harness := (true, "c64234594f096b8509de7b338533caf0871d5c7c4d9e74484273f04b827f93dc"), looks := false }, kinds := [], alts := [], laidByText := true, laidKinds := [.data, .data, .data, .data, .pinned], laidTests := true, laidLooks := .later }
def PanTokensCardSaid : Prop := Claim7.holds Tryd.pinned (.plain (OpenSpec.ofChange panTokensSpec)) panTokensCard

/-- THE TIED CARD OF 'moneyerlaw11.PanBack'. -/
def panBackCard : Claim7 := { stood := { row := panBackRow, standIns := [], harness := (true, "c64234594f096b8509de7b338533caf0871d5c7c4d9e74484273f04b827f93dc"), looks := false }, kinds := [], alts := [], laidByText := true, laidKinds := [.data, .data, .data, .data, .pinned], laidTests := true, laidLooks := .later }
def PanBackCardSaid : Prop := Claim7.holds Tryd.pinned (.plain (OpenSpec.ofChange panBackSpec)) panBackCard

/-- THE TIED CARD OF 'moneyerlaw11.PanHides'. -/
def panHidesCard : Claim7 := { stood := { row := panHidesRow, standIns := [], harness := (true, "c64234594f096b8509de7b338533caf0871d5c7c4d9e74484273f04b827f93dc"), looks := false }, kinds := [], alts := [], laidByText := true, laidKinds := [.data, .data, .data, .data, .pinned], laidTests := true, laidLooks := .later }
def PanHidesCardSaid : Prop := Claim7.holds Tryd.pinned (.plain (OpenSpec.ofChange panHidesSpec)) panHidesCard

/-- THE TIED CARD OF 'moneyerlaw11.PanChecks'. -/
def panChecksCard : Claim7 := { stood := { row := panChecksRow, standIns := [], harness := (true, "c64234594f096b8509de7b338533caf0871d5c7c4d9e74484273f04b827f93dc"), looks := false }, kinds := [], alts := [], laidByText := true, laidKinds := [.data, .data, .data, .data, .pinned], laidTests := true, laidLooks := .later }
def PanChecksCardSaid : Prop := Claim7.holds Tryd.pinned (.plain (OpenSpec.ofChange panChecksSpec)) panChecksCard

/-- THE TIED CARD OF 'moneyerlaw11.PanLengths'. -/
def panLengthsCard : Claim7 := { stood := { row := panLengthsRow, standIns := [], harness := (true, "c64234594f096b8509de7b338533caf0871d5c7c4d9e74484273f04b827f93dc"), looks := false }, kinds := [], alts := [], laidByText := true, laidKinds := [.data, .data, .data, .data, .pinned], laidTests := true, laidLooks := .later }
def PanLengthsCardSaid : Prop := Claim7.holds Tryd.pinned (.plain (OpenSpec.ofChange panLengthsSpec)) panLengthsCard

/-- THE TIED CARD OF 'moneyerlaw23.RolesTells'. -/
def rolesTellsCard : Claim7 := { stood := { row := rolesTellsRow, standIns := [], harness := (true, "c64234594f096b8509de7b338533caf0871d5c7c4d9e74484273f04b827f93dc"), looks := false }, kinds := [], alts := [], laidByText := true, laidKinds := [.data, .data, .data, .data, .pinned], laidTests := true, laidLooks := .later }
def RolesTellsCardSaid : Prop := Claim7.holds Tryd.pinned (.plain (OpenSpec.ofChange rolesTellsSpec)) rolesTellsCard

/-- THE TIED CARD OF 'moneyerlaw23.RolesCodes'. -/
def rolesCodesCard : Claim7 := { stood := { row := rolesCodesRow, standIns := [], harness := (true, "c64234594f096b8509de7b338533caf0871d5c7c4d9e74484273f04b827f93dc"), looks := false }, kinds := [], alts := [], laidByText := true, laidKinds := [.data, .data, .data, .data, .pinned], laidTests := true, laidLooks := .later }
def RolesCodesCardSaid : Prop := Claim7.holds Tryd.pinned (.plain (OpenSpec.ofChange rolesCodesSpec)) rolesCodesCard

/-- THE TIED CARD OF 'moneyerlaw23.RolesBack'. -/
def rolesBackCard : Claim7 := { stood := { row := rolesBackRow, standIns := [], harness := (true, "c64234594f096b8509de7b338533caf0871d5c7c4d9e74484273f04b827f93dc"), looks := false }, kinds := [], alts := [], laidByText := true, laidKinds := [.data, .data, .data, .data, .pinned], laidTests := true, laidLooks := .later }
def RolesBackCardSaid : Prop := Claim7.holds Tryd.pinned (.plain (OpenSpec.ofChange rolesBackSpec)) rolesBackCard

/-- THE TIED CARD OF 'moneyerlaw23.RolesNone'. -/
def rolesNoneCard : Claim7 := { stood := { row := rolesNoneRow, standIns := [], harness := (true, "c64234594f096b8509de7b338533caf0871d5c7c4d9e74484273f04b827f93dc"), looks := false }, kinds := [], alts := [], laidByText := true, laidKinds := [.data, .data, .data, .data, .pinned], laidTests := true, laidLooks := .later }
def RolesNoneCardSaid : Prop := Claim7.holds Tryd.pinned (.plain (OpenSpec.ofChange rolesNoneSpec)) rolesNoneCard

/-- THE TIED CARD OF 'moneyerlaw23.RolesHides'. -/
def rolesHidesCard : Claim7 := { stood := { row := rolesHidesRow, standIns := [], harness := (true, "c64234594f096b8509de7b338533caf0871d5c7c4d9e74484273f04b827f93dc"), looks := false }, kinds := [], alts := [], laidByText := true, laidKinds := [.data, .data, .data, .data, .pinned], laidTests := true, laidLooks := .later }
def RolesHidesCardSaid : Prop := Claim7.holds Tryd.pinned (.plain (OpenSpec.ofChange rolesHidesSpec)) rolesHidesCard

/-- THE SECOND FORM's CARD OF 'moneyerlaw11.PanCuts'. -/
def panCutsUptoCard : Claim7 := { stood := { row := panCutsUptoRow, standIns := [], harness := (true, "c64234594f096b8509de7b338533caf0871d5c7c4d9e74484273f04b827f93dc"), looks := false }, kinds := [], alts := [], laidByText := true, laidKinds := [.data, .data, .data, .data, .pinned], laidTests := true, laidLooks := .later }
def PanCutsUptoCardSaid : Prop := Claim7.holds Tryd.pinned (.plain (OpenSpec.upto panCutsSpec)) panCutsUptoCard

/-- THE SECOND FORM's CARD OF 'moneyerlaw11.PanTokens'. -/
def panTokensUptoCard : Claim7 := { stood := { row := panTokensUptoRow, standIns := [], harness := (true, "c64234594f096b8509de7b338533caf0871d5c7c4d9e74484273f04b827f93dc"), looks := false }, kinds := [], alts := [], laidByText := true, laidKinds := [.data, .data, .data, .data, .pinned], laidTests := true, laidLooks := .later }
def PanTokensUptoCardSaid : Prop := Claim7.holds Tryd.pinned (.plain (OpenSpec.upto panTokensSpec)) panTokensUptoCard

/-- THE SECOND FORM's CARD OF 'moneyerlaw11.PanBack'. -/
def panBackUptoCard : Claim7 := { stood := { row := panBackUptoRow, standIns := [], harness := (true, "c64234594f096b8509de7b338533caf0871d5c7c4d9e74484273f04b827f93dc"), looks := false }, kinds := [], alts := [], laidByText := true, laidKinds := [.data, .data, .data, .data, .pinned], laidTests := true, laidLooks := .later }
def PanBackUptoCardSaid : Prop := Claim7.holds Tryd.pinned (.plain (OpenSpec.upto panBackSpec)) panBackUptoCard

/-- THE SECOND FORM's CARD OF 'moneyerlaw11.PanHides'. -/
def panHidesUptoCard : Claim7 := { stood := { row := panHidesUptoRow, standIns := [], harness := (true, "c64234594f096b8509de7b338533caf0871d5c7c4d9e74484273f04b827f93dc"), looks := false }, kinds := [], alts := [], laidByText := true, laidKinds := [.data, .data, .data, .data, .pinned], laidTests := true, laidLooks := .later }
def PanHidesUptoCardSaid : Prop := Claim7.holds Tryd.pinned (.plain (OpenSpec.upto panHidesSpec)) panHidesUptoCard

/-- THE SECOND FORM's CARD OF 'moneyerlaw11.PanChecks'. -/
def panChecksUptoCard : Claim7 := { stood := { row := panChecksUptoRow, standIns := [], harness := (true, "c64234594f096b8509de7b338533caf0871d5c7c4d9e74484273f04b827f93dc"), looks := false }, kinds := [], alts := [], laidByText := true, laidKinds := [.data, .data, .data, .data, .pinned], laidTests := true, laidLooks := .later }
def PanChecksUptoCardSaid : Prop := Claim7.holds Tryd.pinned (.plain (OpenSpec.upto panChecksSpec)) panChecksUptoCard

/-- THE SECOND FORM's CARD OF 'moneyerlaw11.PanLengths'. -/
def panLengthsUptoCard : Claim7 := { stood := { row := panLengthsUptoRow, standIns := [], harness := (true, "c64234594f096b8509de7b338533caf0871d5c7c4d9e74484273f04b827f93dc"), looks := false }, kinds := [], alts := [], laidByText := true, laidKinds := [.data, .data, .data, .data, .pinned], laidTests := true, laidLooks := .later }
def PanLengthsUptoCardSaid : Prop := Claim7.holds Tryd.pinned (.plain (OpenSpec.upto panLengthsSpec)) panLengthsUptoCard

/-- THE SECOND FORM's CARD OF 'moneyerlaw23.RolesTells'. -/
def rolesTellsUptoCard : Claim7 := { stood := { row := rolesTellsUptoRow, standIns := [], harness := (true, "c64234594f096b8509de7b338533caf0871d5c7c4d9e74484273f04b827f93dc"), looks := false }, kinds := [], alts := [], laidByText := true, laidKinds := [.data, .data, .data, .data, .pinned], laidTests := true, laidLooks := .later }
def RolesTellsUptoCardSaid : Prop := Claim7.holds Tryd.pinned (.plain (OpenSpec.upto rolesTellsSpec)) rolesTellsUptoCard

/-- THE SECOND FORM's CARD OF 'moneyerlaw23.RolesCodes'. -/
def rolesCodesUptoCard : Claim7 := { stood := { row := rolesCodesUptoRow, standIns := [], harness := (true, "c64234594f096b8509de7b338533caf0871d5c7c4d9e74484273f04b827f93dc"), looks := false }, kinds := [], alts := [], laidByText := true, laidKinds := [.data, .data, .data, .data, .pinned], laidTests := true, laidLooks := .later }
def RolesCodesUptoCardSaid : Prop := Claim7.holds Tryd.pinned (.plain (OpenSpec.upto rolesCodesSpec)) rolesCodesUptoCard

/-- THE SECOND FORM's CARD OF 'moneyerlaw23.RolesBack'. -/
def rolesBackUptoCard : Claim7 := { stood := { row := rolesBackUptoRow, standIns := [], harness := (true, "c64234594f096b8509de7b338533caf0871d5c7c4d9e74484273f04b827f93dc"), looks := false }, kinds := [], alts := [], laidByText := true, laidKinds := [.data, .data, .data, .data, .pinned], laidTests := true, laidLooks := .later }
def RolesBackUptoCardSaid : Prop := Claim7.holds Tryd.pinned (.plain (OpenSpec.upto rolesBackSpec)) rolesBackUptoCard

/-- THE SECOND FORM's CARD OF 'moneyerlaw23.RolesNone'. -/
def rolesNoneUptoCard : Claim7 := { stood := { row := rolesNoneUptoRow, standIns := [], harness := (true, "c64234594f096b8509de7b338533caf0871d5c7c4d9e74484273f04b827f93dc"), looks := false }, kinds := [], alts := [], laidByText := true, laidKinds := [.data, .data, .data, .data, .pinned], laidTests := true, laidLooks := .later }
def RolesNoneUptoCardSaid : Prop := Claim7.holds Tryd.pinned (.plain (OpenSpec.upto rolesNoneSpec)) rolesNoneUptoCard

/-- THE SECOND FORM's CARD OF 'moneyerlaw23.RolesHides'. -/
def rolesHidesUptoCard : Claim7 := { stood := { row := rolesHidesUptoRow, standIns := [], harness := (true, "c64234594f096b8509de7b338533caf0871d5c7c4d9e74484273f04b827f93dc"), looks := false }, kinds := [], alts := [], laidByText := true, laidKinds := [.data, .data, .data, .data, .pinned], laidTests := true, laidLooks := .later }
def RolesHidesUptoCardSaid : Prop := Claim7.holds Tryd.pinned (.plain (OpenSpec.upto rolesHidesSpec)) rolesHidesUptoCard
end Rows
end Go.Proofs.YtnhcabcpdlgdaaaDoor
