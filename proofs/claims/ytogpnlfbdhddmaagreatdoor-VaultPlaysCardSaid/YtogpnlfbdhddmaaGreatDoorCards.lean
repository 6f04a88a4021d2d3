/-
  DERIVED. GIVEN WITH THE SEED: THE CARDS: each row of YtogpnlfbdhddmaaGreatDoorRows.lean that lists a variable, with what it lists TIED to the program's text (the seventh form; the later family's looks); each row that meets fmt, with fmt's text TOLD by the authors' own Lean function (tested against real Go, not proved from fmt's source: count such statements apart). THE CARD IS WHAT COUNTS. Prove the row's statement (the work); the ties are given (YtogpnlfbdhddmaaGreatDoorTie.lean); close each card by the builder's one call (the guide's Derived/Test/ToyasCard.lean, 'card_holds'). Laid BY PROGRAM, IN A SANDBOX (cutbox-door.mjs). By AI agents, Wed Nov 11 2026. No macro, syntax, notation, axiom, sorry.
-/
import Derived.Test.YtogpnlfbdhddmaaGreatDoorRows
import GoSem.ClaimSeven
namespace Go.Proofs.YtogpnlfbdhddmaaGreatDoor
namespace Rows

/-- THE TIED CARD OF 'moneyerlaw14.VaultRotates'. -/
def vaultRotatesCard : Claim7 := { stood := { row := vaultRotatesRow, standIns := [], harness := (true, "a56404006277dc474bcddf2e4834bcca434d9ce530227af338b243fada81c91b"), looks := false }, kinds := [], alts := [], laidByText := true, laidKinds := [.data, .data, .data, .data, .pinned], laidTests := true, laidLooks := .later }
def VaultRotatesCardSaid : Prop := Claim7.holds Tryz.pinned (.plain (OpenSpec.ofChange vaultRotatesSpec)) vaultRotatesCard

/-- THE TIED CARD OF 'moneyerlaw14.VaultShaped'. -/
def vaultShapedCard : Claim7 := { stood := { row := vaultShapedRow, standIns := [], harness := (true, "a56404006277dc474bcddf2e4834bcca434d9ce530227af338b243fada81c91b"), looks := false }, kinds := [], alts := [], laidByText := true, laidKinds := [.data, .data, .data, .data, .pinned], laidTests := true, laidLooks := .later }
def VaultShapedCardSaid : Prop := Claim7.holds Tryz.pinned (.plain (OpenSpec.ofChange vaultShapedSpec)) vaultShapedCard

/-- THE TIED CARD OF 'moneyerlaw14.VaultPlays'. -/
def vaultPlaysCard : Claim7 := { stood := { row := vaultPlaysRow, standIns := [], harness := (true, "a56404006277dc474bcddf2e4834bcca434d9ce530227af338b243fada81c91b"), looks := false }, kinds := [], alts := [], laidByText := true, laidKinds := [.data, .data, .data, .data, .pinned], laidTests := true, laidLooks := .later }
def VaultPlaysCardSaid : Prop := Claim7.holds Tryz.pinned (.plain (OpenSpec.ofChange vaultPlaysSpec)) vaultPlaysCard

/-- THE TIED CARD OF 'moneyerlaw14.VaultApart'. -/
def vaultApartCard : Claim7 := { stood := { row := vaultApartRow, standIns := [], harness := (true, "a56404006277dc474bcddf2e4834bcca434d9ce530227af338b243fada81c91b"), looks := false }, kinds := [], alts := [], laidByText := true, laidKinds := [.data, .data, .data, .data, .pinned], laidTests := true, laidLooks := .later }
def VaultApartCardSaid : Prop := Claim7.holds Tryz.pinned (.plain (OpenSpec.ofChange vaultApartSpec)) vaultApartCard

/-- THE TIED CARD OF 'moneyerlaw14.VaultBack'. -/
def vaultBackCard : Claim7 := { stood := { row := vaultBackRow, standIns := [], harness := (true, "a56404006277dc474bcddf2e4834bcca434d9ce530227af338b243fada81c91b"), looks := false }, kinds := [], alts := [], laidByText := true, laidKinds := [.data, .data, .data, .data, .pinned], laidTests := true, laidLooks := .later }
def VaultBackCardSaid : Prop := Claim7.holds Tryz.pinned (.plain (OpenSpec.ofChange vaultBackSpec)) vaultBackCard

/-- THE SECOND FORM's CARD OF 'moneyerlaw14.VaultRotates'. -/
def vaultRotatesUptoCard : Claim7 := { stood := { row := vaultRotatesUptoRow, standIns := [], harness := (true, "a56404006277dc474bcddf2e4834bcca434d9ce530227af338b243fada81c91b"), looks := false }, kinds := [], alts := [], laidByText := true, laidKinds := [.data, .data, .data, .data, .pinned], laidTests := true, laidLooks := .later }
def VaultRotatesUptoCardSaid : Prop := Claim7.holds Tryz.pinned (.plain (OpenSpec.upto vaultRotatesSpec)) vaultRotatesUptoCard

/-- THE SECOND FORM's CARD OF 'moneyerlaw14.VaultShaped'. -/
def vaultShapedUptoCard : Claim7 := { stood := { row := vaultShapedUptoRow, standIns := [], harness := (true, "a56404006277dc474bcddf2e4834bcca434d9ce530227af338b243fada81c91b"), looks := false }, kinds := [], alts := [], laidByText := true, laidKinds := [.data, .data, .data, .data, .pinned], laidTests := true, laidLooks := .later }
def VaultShapedUptoCardSaid : Prop := Claim7.holds Tryz.pinned (.plain (OpenSpec.upto vaultShapedSpec)) vaultShapedUptoCard

/-- THE SECOND FORM's CARD OF 'moneyerlaw14.VaultPlays'. -/
def vaultPlaysUptoCard : Claim7 := { stood := { row := vaultPlaysUptoRow, standIns := [], harness := (true, "a56404006277dc474bcddf2e4834bcca434d9ce530227af338b243fada81c91b"), looks := false }, kinds := [], alts := [], laidByText := true, laidKinds := [.data, .data, .data, .data, .pinned], laidTests := true, laidLooks := .later }
def VaultPlaysUptoCardSaid : Prop := Claim7.holds Tryz.pinned (.plain (OpenSpec.upto vaultPlaysSpec)) vaultPlaysUptoCard

/-- THE SECOND FORM's CARD OF 'moneyerlaw14.VaultApart'. -/
def vaultApartUptoCard : Claim7 := { stood := { row := vaultApartUptoRow, standIns := [], harness := (true, "a56404006277dc474bcddf2e4834bcca434d9ce530227af338b243fada81c91b"), looks := false }, kinds := [], alts := [], laidByText := true, laidKinds := [.data, .data, .data, .data, .pinned], laidTests := true, laidLooks := .later }
def VaultApartUptoCardSaid : Prop := Claim7.holds Tryz.pinned (.plain (OpenSpec.upto vaultApartSpec)) vaultApartUptoCard

/-- THE SECOND FORM's CARD OF 'moneyerlaw14.VaultBack'. -/
def vaultBackUptoCard : Claim7 := { stood := { row := vaultBackUptoRow, standIns := [], harness := (true, "a56404006277dc474bcddf2e4834bcca434d9ce530227af338b243fada81c91b"), looks := false }, kinds := [], alts := [], laidByText := true, laidKinds := [.data, .data, .data, .data, .pinned], laidTests := true, laidLooks := .later }
def VaultBackUptoCardSaid : Prop := Claim7.holds Tryz.pinned (.plain (OpenSpec.upto vaultBackSpec)) vaultBackUptoCard
end Rows
end Go.Proofs.YtogpnlfbdhddmaaGreatDoor
