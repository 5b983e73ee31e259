/-
  NARROWER THAN 'FOR EVERY INPUT', by the rows' own cells (each row's printed sentence says how): MeasureLookup: laid · MeasureOnce: loops, calm, laid · MeasureOrders: calm, laid.
  DERIVED. THE GIVEN ROWS OF THIS SEAT. 3 by the template 'for every input the law returns true; each argument reads behind the call as it read before'; 0 by the template 'total and deterministic' (their statements: YtilnppdognejbaaGreatDoorTotals.lean).
  GIVEN WITH THE SEED: the statements are not yours to turn. If you find one false, say at which input.
  Laid BY PROGRAM, IN A SANDBOX (cutbox-rows.mjs): the forced cells as the released guide's own fill.sh prints them over the translation 2b28bbd0b0e7695d… (all of the seat's roots in one cut). By AI agents, Wed Nov 11 2026. No macro, syntax, notation, axiom, sorry.
-/
import Derived.Test.YtilnppdognejbaaGreatDoorChecked
import GoSem.Claim
import GoSem.ClaimJoined
import GoSem.ClaimMapViews
import Derived.JoinedTies
import Derived.KernelRfl
namespace Go.Proofs.YtilnppdognejbaaGreatDoor
/- THE CELL 'sum', in the pinned program and in every row, IS THE sha256 OF THE DUMP (.gsa) THAT YtilnppdognejbaaGreatDoorProg.lean LOADS. Nothing in Lean hashes anything: it is a label: what it is worth is what the hold of that sum in a sandbox is worth. -/
noncomputable def Tryz.pinned : Pinned := { name := "ytilnppdognejbaagreatdoor", sum := "2b28bbd0b0e7695d6ccb92d84a9014af8dc774c3b88ee78cca9eae45a8478182", checked := Tryz.checked }
namespace Rows
def none {H : Type} : Left H := { results := [], args := [] }

/- WHAT THE LISTED PACKAGE-LEVEL VARIABLES READ AS WHEN THE CALL BEGINS. Each datum BY PROGRAM (the guide's laid-datum.mjs) off the statement by which the dump's own 'gosem.cut.vars' lays the variable. In a bare row this is a premise. The card (YtilnppdognejbaaGreatDoorCards.lean) ties it to the program's text. -/
def laid_pairing_grammar_reserved {H : Type} : DataW H := .agg [.lit (.string [97, 110, 100]), .lit (.string [111, 114]), .lit (.string [110, 111, 116]), .lit (.string [105, 109, 112, 108, 105, 101, 115]), .lit (.string [105, 110]), .lit (.string [116, 111]), .lit (.string [116, 114, 117, 101]), .lit (.string [102, 97, 108, 115, 101]), .lit (.string [109, 105, 110]), .lit (.string [109, 97, 120]), .lit (.string [105, 102]), .lit (.string [116, 104, 101, 110]), .lit (.string [101, 108, 115, 101])]
def laid_pairing_types_dutyNames {H : Type} : DataW H := .agg [.lit (.string [108, 101, 103, 115]), .lit (.string [104, 101, 97, 100, 115]), .lit (.string [116, 121, 112, 101, 115]), .lit (.string [98, 108, 111, 99, 107]), .lit (.string [115, 112, 97, 110]), .lit (.string [110, 105, 103, 104, 116]), .lit (.string [108, 111, 110, 103, 101, 115, 116]), .lit (.string [115, 104, 111, 114, 116, 101, 115, 116]), .lit (.string [115, 104, 105, 102, 116]), .lit (.string [115, 116, 97, 114, 116]), .lit (.string [101, 110, 100])]
def laid_pairing_types_restNames {H : Type} : DataW H := .agg [.lit (.string [114, 101, 115, 116]), .lit (.string [110, 105, 103, 104, 116, 115]), .lit (.string [104, 111, 109, 101])]
def laid_pairing_types_pairingNames {H : Type} : DataW H := .agg [.lit (.string [100, 117, 116, 105, 101, 115]), .lit (.string [108, 101, 103, 115]), .lit (.string [104, 101, 97, 100, 115]), .lit (.string [100, 97, 121, 115]), .lit (.string [98, 108, 111, 99, 107]), .lit (.string [115, 112, 97, 110]), .lit (.string [99, 114, 101, 100, 105, 116])]
def laid_pairing_types_pairingTypes {H : Type} : DataW H := .agg [.lit (.int .i64 1), .lit (.int .i64 1), .lit (.int .i64 1), .lit (.int .i64 1), .lit (.int .i64 2), .lit (.int .i64 2), .lit (.int .i64 2)]

/-- 'pairinglaw15.MeasureLookup': WHATEVER THE INPUT: true; the input reads as it did. -/
def measureLookupSpec : ChangeSpec := { name := "measureLookup", fn := fun _ => fun
  | [d1, d2] => { results := [.lit (.bool true)], args := [d1, d2] }
  | _ => none }
def measureLookupRow : OpenClaim := { program := "ytilnppdognejbaagreatdoor", sum := "2b28bbd0b0e7695d6ccb92d84a9014af8dc774c3b88ee78cca9eae45a8478182", func := "pairing/pairinglaw15.MeasureLookup", spec := "measureLookup", inPlace := ["internal/bytealg.IndexByteString", "internal/bytealg.IndexString"], unfollowed := true, recurses := true, named := ["pairing/grammar.reserved", "internal/bytealg.MaxLen", "pairing/types.dutyNames", "pairing/types.restNames", "pairing/types.pairingNames", "pairing/types.dutyTypes", "pairing/types.restTypes", "pairing/types.pairingTypes"], apart := false, laid := [("pairing/grammar.reserved", laid_pairing_grammar_reserved), ("pairing/types.dutyNames", laid_pairing_types_dutyNames), ("pairing/types.restNames", laid_pairing_types_restNames), ("pairing/types.pairingNames", laid_pairing_types_pairingNames), ("pairing/types.pairingTypes", laid_pairing_types_pairingTypes)] }
def MeasureLookupSaid : Prop := measureLookupRow.holds Tryz.pinned (OpenSpec.ofChange measureLookupSpec)

/-- ITS FALSE NEIGHBOUR: 'it returns false'. Refute it at one input. -/
def measureLookupWrong : ChangeSpec := { name := "measureLookup", fn := fun _ => fun
  | [d1, d2] => { results := [.lit (.bool false)], args := [d1, d2] }
  | _ => none }
def MeasureLookupWrongFalsely : Prop := measureLookupRow.holds Tryz.pinned (OpenSpec.ofChange measureLookupWrong)

/-- 'pairinglaw15.MeasureOnce': WHATEVER THE INPUT: true; the input reads as it did. -/
def measureOnceSpec : ChangeSpec := { name := "measureOnce", fn := fun _ => fun
  | [d1, d2, d3] => { results := [.lit (.bool true)], args := [d1, d2, d3] }
  | _ => none }
def measureOnceRow : OpenClaim := { program := "ytilnppdognejbaagreatdoor", sum := "2b28bbd0b0e7695d6ccb92d84a9014af8dc774c3b88ee78cca9eae45a8478182", func := "pairing/pairinglaw15.MeasureOnce", spec := "measureOnce", inPlace := ["internal/bytealg.IndexByteString", "internal/bytealg.IndexString"], unfollowed := true, recurses := true, named := ["pairing/grammar.reserved", "internal/bytealg.MaxLen", "pairing/types.dutyNames", "pairing/types.restNames", "pairing/types.pairingNames", "pairing/types.dutyTypes", "pairing/types.restTypes", "pairing/types.pairingTypes"], loops := true, apart := false, calm := true, outside := [.timePasses], laid := [("pairing/grammar.reserved", laid_pairing_grammar_reserved), ("pairing/types.dutyNames", laid_pairing_types_dutyNames), ("pairing/types.restNames", laid_pairing_types_restNames), ("pairing/types.pairingNames", laid_pairing_types_pairingNames), ("pairing/types.pairingTypes", laid_pairing_types_pairingTypes)] }
def MeasureOnceSaid : Prop := measureOnceRow.holds Tryz.pinned (OpenSpec.ofChange measureOnceSpec)

/-- ITS FALSE NEIGHBOUR: 'it returns false'. Refute it at one input. -/
def measureOnceWrong : ChangeSpec := { name := "measureOnce", fn := fun _ => fun
  | [d1, d2, d3] => { results := [.lit (.bool false)], args := [d1, d2, d3] }
  | _ => none }
def MeasureOnceWrongFalsely : Prop := measureOnceRow.holds Tryz.pinned (OpenSpec.ofChange measureOnceWrong)

/-- 'pairinglaw15.MeasureOrders': WHATEVER THE INPUT: true; the input reads as it did. -/
def measureOrdersSpec : ChangeSpec := { name := "measureOrders", fn := fun _ => fun
  | [d1, d2, d3] => { results := [.lit (.bool true)], args := [d1, d2, d3] }
  | _ => none }
def measureOrdersRow : OpenClaim := { program := "ytilnppdognejbaagreatdoor", sum := "2b28bbd0b0e7695d6ccb92d84a9014af8dc774c3b88ee78cca9eae45a8478182", func := "pairing/pairinglaw15.MeasureOrders", spec := "measureOrders", inPlace := ["internal/bytealg.IndexByteString", "internal/bytealg.IndexString", "internal/bytealg.abigen_runtime_cmpstring"], unfollowed := true, recurses := true, named := ["pairing/grammar.reserved", "internal/bytealg.MaxLen", "pairing/types.dutyNames", "pairing/types.restNames", "pairing/types.pairingNames", "pairing/types.dutyTypes", "pairing/types.restTypes", "pairing/types.pairingTypes"], apart := false, calm := true, outside := [.timePasses], laid := [("pairing/grammar.reserved", laid_pairing_grammar_reserved), ("pairing/types.dutyNames", laid_pairing_types_dutyNames), ("pairing/types.restNames", laid_pairing_types_restNames), ("pairing/types.pairingNames", laid_pairing_types_pairingNames), ("pairing/types.pairingTypes", laid_pairing_types_pairingTypes)] }
def MeasureOrdersSaid : Prop := measureOrdersRow.holds Tryz.pinned (OpenSpec.ofChange measureOrdersSpec)

/-- ITS FALSE NEIGHBOUR: 'it returns false'. Refute it at one input. -/
def measureOrdersWrong : ChangeSpec := { name := "measureOrders", fn := fun _ => fun
  | [d1, d2, d3] => { results := [.lit (.bool false)], args := [d1, d2, d3] }
  | _ => none }
def MeasureOrdersWrongFalsely : Prop := measureOrdersRow.holds Tryz.pinned (OpenSpec.ofChange measureOrdersWrong)

/- THE SECOND FORM. 'bulk': how many values and letters a reading holds, each counted each time it is reached (what is shared counts as often as it is met; a slice's spare places count too). A statement '..UptoSaid' is the law's where the arguments, and the package variables that the reading takes, are together of bulk at most 1048576: NARROWER than '..Said'. Prove '..Said' where nothing that the law and all that it calls make is longer than what came in: it says more and counts as full. Else prove '..UptoSaid'. A law counts once. -/
mutual
def uptoBulk {H : Type} : DataW H → Nat
  | .lit (.string bytes) => bytes.length + 1
  | .lit _ => 1
  | .nil => 1
  | .ptr d => uptoBulk d + 1
  | .slice elems spare => uptoBulkAll elems + uptoBulkAll spare + 1
  | .agg parts => uptoBulkAll parts + 1
  | .iface _ d => uptoBulk d + 1
  | .map entries => uptoBulkEntries entries + 1
  | .held _ => 1
def uptoBulkAll {H : Type} : List (DataW H) → Nat
  | [] => 0
  | d :: r => uptoBulk d + uptoBulkAll r
def uptoBulkEntries {H : Type} : List (Lit × DataW H) → Nat
  | [] => 0
  | x :: r => uptoBulkEntry x + uptoBulkEntries r
def uptoBulkEntry {H : Type} : Lit × DataW H → Nat
  | (.string bytes, d) => bytes.length + uptoBulk d + 1
  | (_, d) => uptoBulk d + 1
 end
def uptoSmall : (H : Type) → List (DataW H) → Bool := fun _ ds => decide (uptoBulkAll ds ≤ 1048576)
def OpenSpec.upto (s : _root_.Go.ChangeSpec) : _root_.Go.OpenSpec := { _root_.Go.OpenSpec.ofChange s with cond := some uptoSmall }

/-- 'pairinglaw15.MeasureLookup', WHERE WHAT IT READS IS OF BULK AT MOST 1048576: true; the input reads as it did. -/
def measureLookupUptoRow : OpenClaim := { program := "ytilnppdognejbaagreatdoor", sum := "2b28bbd0b0e7695d6ccb92d84a9014af8dc774c3b88ee78cca9eae45a8478182", func := "pairing/pairinglaw15.MeasureLookup", spec := "measureLookup", inPlace := ["internal/bytealg.IndexByteString", "internal/bytealg.IndexString"], unfollowed := true, recurses := true, named := ["pairing/grammar.reserved", "internal/bytealg.MaxLen", "pairing/types.dutyNames", "pairing/types.restNames", "pairing/types.pairingNames", "pairing/types.dutyTypes", "pairing/types.restTypes", "pairing/types.pairingTypes"], apart := false, laid := [("pairing/grammar.reserved", laid_pairing_grammar_reserved), ("pairing/types.dutyNames", laid_pairing_types_dutyNames), ("pairing/types.restNames", laid_pairing_types_restNames), ("pairing/types.pairingNames", laid_pairing_types_pairingNames), ("pairing/types.pairingTypes", laid_pairing_types_pairingTypes)], narrowed := true }
def MeasureLookupUptoSaid : Prop := measureLookupUptoRow.holds Tryz.pinned (OpenSpec.upto measureLookupSpec)

end Rows
end Go.Proofs.YtilnppdognejbaaGreatDoor
