/-
  DERIVED. GIVEN WITH THE SEED: THE CARDS: each row of YtgkdmkjfcmilgaaGreatDoorRows.lean that lists a variable, with what it lists TIED to the program's text (the seventh form; the later family's looks); each row that meets fmt, with fmt's text TOLD by the authors' own Lean function (tested against real Go, not proved from fmt's source: count such statements apart). THE CARD IS WHAT COUNTS. Prove the row's statement (the work); the ties are given (YtgkdmkjfcmilgaaGreatDoorTie.lean); close each card by the builder's one call (the guide's Derived/Test/ToyasCard.lean, 'card_holds'). Laid BY PROGRAM, IN A SANDBOX (cutbox-door.mjs). By AI agents, Wed Nov 11 2026. No macro, syntax, notation, axiom, sorry.
-/
import Derived.Test.YtgkdmkjfcmilgaaGreatDoorRows
import GoSem.ClaimSeven
namespace Go.Proofs.YtgkdmkjfcmilgaaGreatDoor
namespace Rows

/-- THE TIED CARD OF 'pairinglaw38.TotalsValidate'. -/
def totalsValidateCard : Claim7 := { stood := { row := totalsValidateRow, standIns := [], harness := (true, "cc71f390c8980d796e686718cb98c5d9ad1b127a37238c1a6695e7518ed6eeb6"), looks := false }, kinds := [], alts := [], laidByText := true, laidKinds := [.widerDeep, .widerDeep, .widerDeep, .widerDeep, .widerDeep], laidTests := true, laidLooks := .later }
def TotalsValidateCardSaid : Prop := Claim7.holds Tryz.pinned (.plain (OpenSpec.ofChange totalsValidateSpec)) totalsValidateCard

/-- THE TIED CARD OF 'pairinglaw38.TotalsPays'. -/
def totalsPaysCard : Claim7 := { stood := { row := totalsPaysRow, standIns := [], harness := (true, "cc71f390c8980d796e686718cb98c5d9ad1b127a37238c1a6695e7518ed6eeb6"), looks := false }, kinds := [], alts := [], laidByText := true, laidKinds := [.widerDeep, .widerDeep, .widerDeep, .widerDeep, .widerDeep], laidTests := true, laidLooks := .later }
def TotalsPaysCardSaid : Prop := Claim7.holds Tryz.pinned (.plain (OpenSpec.ofChange totalsPaysSpec)) totalsPaysCard

/-- THE SECOND FORM's CARD OF 'pairinglaw38.TotalsValidate'. -/
def totalsValidateUptoCard : Claim7 := { stood := { row := totalsValidateUptoRow, standIns := [], harness := (true, "cc71f390c8980d796e686718cb98c5d9ad1b127a37238c1a6695e7518ed6eeb6"), looks := false }, kinds := [], alts := [], laidByText := true, laidKinds := [.widerDeep, .widerDeep, .widerDeep, .widerDeep, .widerDeep], laidTests := true, laidLooks := .later }
def TotalsValidateUptoCardSaid : Prop := Claim7.holds Tryz.pinned (.plain (OpenSpec.upto totalsValidateSpec)) totalsValidateUptoCard

/-- THE SECOND FORM's CARD OF 'pairinglaw38.TotalsPays'. -/
def totalsPaysUptoCard : Claim7 := { stood := { row := totalsPaysUptoRow, standIns := [], harness := (true, "cc71f390c8980d796e686718cb98c5d9ad1b127a37238c1a6695e7518ed6eeb6"), looks := false }, kinds := [], alts := [], laidByText := true, laidKinds := [.widerDeep, .widerDeep, .widerDeep, .widerDeep, .widerDeep], laidTests := true, laidLooks := .later }
def TotalsPaysUptoCardSaid : Prop := Claim7.holds Tryz.pinned (.plain (OpenSpec.upto totalsPaysSpec)) totalsPaysUptoCard
end Rows
end Go.Proofs.YtgkdmkjfcmilgaaGreatDoor
