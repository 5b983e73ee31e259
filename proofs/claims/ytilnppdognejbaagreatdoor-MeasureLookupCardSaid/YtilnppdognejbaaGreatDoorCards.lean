/-
  DERIVED. GIVEN WITH THE SEED: THE CARDS: each row of YtilnppdognejbaaGreatDoorRows.lean that lists a variable, with what it lists TIED to the program's text (the seventh form; the later family's looks); each row that meets fmt, with fmt's text TOLD by the authors' own Lean function (tested against real Go, not proved from fmt's source: count such statements apart). THE CARD IS WHAT COUNTS. Prove the row's statement (the work); the ties are given (YtilnppdognejbaaGreatDoorTie.lean); close each card by the builder's one call (the guide's Derived/Test/ToyasCard.lean, 'card_holds'). Laid BY PROGRAM, IN A SANDBOX (cutbox-door.mjs). By AI agents, Wed Nov 11 2026. No macro, syntax, notation, axiom, sorry.
-/
import Derived.Test.YtilnppdognejbaaGreatDoorRows
import GoSem.ClaimSeven
namespace Go.Proofs.YtilnppdognejbaaGreatDoor
namespace Rows

/-- THE TIED CARD OF 'pairinglaw15.MeasureLookup'. -/
def measureLookupCard : Claim7 := { stood := { row := measureLookupRow, standIns := [], harness := (true, "0511f04ad4ef0197af9ae8f1e34e4c4dc683010ef54a99b7e12cb42cff6e5c4b"), looks := false }, kinds := [], alts := [], laidByText := true, laidKinds := [.widerDeep, .widerDeep, .widerDeep, .widerDeep, .widerDeep], laidTests := true, laidLooks := .later }
def MeasureLookupCardSaid : Prop := Claim7.holds Tryz.pinned (.plain (OpenSpec.ofChange measureLookupSpec)) measureLookupCard

/-- THE TIED CARD OF 'pairinglaw15.MeasureOnce'. -/
def measureOnceCard : Claim7 := { stood := { row := measureOnceRow, standIns := [], harness := (true, "0511f04ad4ef0197af9ae8f1e34e4c4dc683010ef54a99b7e12cb42cff6e5c4b"), looks := false }, kinds := [], alts := [], laidByText := true, laidKinds := [.widerDeep, .widerDeep, .widerDeep, .widerDeep, .widerDeep], laidTests := true, laidLooks := .later }
def MeasureOnceCardSaid : Prop := Claim7.holds Tryz.pinned (.plain (OpenSpec.ofChange measureOnceSpec)) measureOnceCard

/-- THE TIED CARD OF 'pairinglaw15.MeasureOrders'. -/
def measureOrdersCard : Claim7 := { stood := { row := measureOrdersRow, standIns := [], harness := (true, "0511f04ad4ef0197af9ae8f1e34e4c4dc683010ef54a99b7e12cb42cff6e5c4b"), looks := false }, kinds := [], alts := [], laidByText := true, laidKinds := [.widerDeep, .widerDeep, .widerDeep, .widerDeep, .widerDeep], laidTests := true, laidLooks := .later }
def MeasureOrdersCardSaid : Prop := Claim7.holds Tryz.pinned (.plain (OpenSpec.ofChange measureOrdersSpec)) measureOrdersCard

/-- THE SECOND FORM's CARD OF 'pairinglaw15.MeasureLookup'. -/
def measureLookupUptoCard : Claim7 := { stood := { row := measureLookupUptoRow, standIns := [], harness := (true, "0511f04ad4ef0197af9ae8f1e34e4c4dc683010ef54a99b7e12cb42cff6e5c4b"), looks := false }, kinds := [], alts := [], laidByText := true, laidKinds := [.widerDeep, .widerDeep, .widerDeep, .widerDeep, .widerDeep], laidTests := true, laidLooks := .later }
def MeasureLookupUptoCardSaid : Prop := Claim7.holds Tryz.pinned (.plain (OpenSpec.upto measureLookupSpec)) measureLookupUptoCard
end Rows
end Go.Proofs.YtilnppdognejbaaGreatDoor
