/-
  NARROWER THAN 'FOR EVERY INPUT', by the rows' own cells (each row's printed sentence says how): TotalsValidate: laid · TotalsPays: laid.
  DERIVED. THE GIVEN ROWS OF THIS SEAT. 2 by the template 'for every input the law returns true; each argument reads behind the call as it read before'; 0 by the template 'total and deterministic' (their statements: YtgkdmkjfcmilgaaGreatDoorTotals.lean).
  GIVEN WITH THE SEED: the statements are not yours to turn. If you find one false, say at which input.
  Laid BY PROGRAM, IN A SANDBOX (cutbox-rows.mjs): the forced cells as the released guide's own fill.sh prints them over the translation 7c52a40357a21b1a… (all of the seat's roots in one cut). By AI agents, Wed Nov 11 2026. No macro, syntax, notation, axiom, sorry.
-/
import Derived.Test.YtgkdmkjfcmilgaaGreatDoorChecked
import GoSem.Claim
import GoSem.ClaimJoined
import GoSem.ClaimMapViews
import Derived.JoinedTies
import Derived.KernelRfl
namespace Go.Proofs.YtgkdmkjfcmilgaaGreatDoor
/- THE CELL 'sum', in the pinned program and in every row, IS THE sha256 OF THE DUMP (.gsa) THAT YtgkdmkjfcmilgaaGreatDoorProg.lean LOADS. Nothing in Lean hashes anything: it is a label: what it is worth is what the hold of that sum in a sandbox is worth. -/
noncomputable def Tryz.pinned : Pinned := { name := "ytgkdmkjfcmilgaagreatdoor", sum := "7c52a40357a21b1a316e1dea400077466d581abd1a6e9c56428f4aea0f543e2d", checked := Tryz.checked }
namespace Rows
def none {H : Type} : Left H := { results := [], args := [] }

/- WHAT THE LISTED PACKAGE-LEVEL VARIABLES READ AS WHEN THE CALL BEGINS. Each datum BY PROGRAM (the guide's laid-datum.mjs) off the statement by which the dump's own 'gosem.cut.vars' lays the variable. In a bare row this is a premise. The card (YtgkdmkjfcmilgaaGreatDoorCards.lean) ties it to the program's text. -/
def laid_pairing_grammar_reserved {H : Type} : DataW H := .agg [.lit (.string [97, 110, 100]), .lit (.string [111, 114]), .lit (.string [110, 111, 116]), .lit (.string [105, 109, 112, 108, 105, 101, 115]), .lit (.string [105, 110]), .lit (.string [116, 111]), .lit (.string [116, 114, 117, 101]), .lit (.string [102, 97, 108, 115, 101]), .lit (.string [109, 105, 110]), .lit (.string [109, 97, 120]), .lit (.string [105, 102]), .lit (.string [116, 104, 101, 110]), .lit (.string [101, 108, 115, 101])]
def laid_pairing_types_dutyNames {H : Type} : DataW H := .agg [.lit (.string [108, 101, 103, 115]), .lit (.string [104, 101, 97, 100, 115]), .lit (.string [116, 121, 112, 101, 115]), .lit (.string [98, 108, 111, 99, 107]), .lit (.string [115, 112, 97, 110]), .lit (.string [110, 105, 103, 104, 116]), .lit (.string [108, 111, 110, 103, 101, 115, 116]), .lit (.string [115, 104, 111, 114, 116, 101, 115, 116]), .lit (.string [115, 104, 105, 102, 116]), .lit (.string [115, 116, 97, 114, 116]), .lit (.string [101, 110, 100])]
def laid_pairing_types_restNames {H : Type} : DataW H := .agg [.lit (.string [114, 101, 115, 116]), .lit (.string [110, 105, 103, 104, 116, 115]), .lit (.string [104, 111, 109, 101])]
def laid_pairing_types_pairingNames {H : Type} : DataW H := .agg [.lit (.string [100, 117, 116, 105, 101, 115]), .lit (.string [108, 101, 103, 115]), .lit (.string [104, 101, 97, 100, 115]), .lit (.string [100, 97, 121, 115]), .lit (.string [98, 108, 111, 99, 107]), .lit (.string [115, 112, 97, 110]), .lit (.string [99, 114, 101, 100, 105, 116])]
def laid_pairing_types_pairingTypes {H : Type} : DataW H := .agg [.lit (.int .i64 1), .lit (.int .i64 1), .lit (.int .i64 1), .lit (.int .i64 1), .lit (.int .i64 2), .lit (.int .i64 2), .lit (.int .i64 2)]

/-- 'pairinglaw38.TotalsValidate': WHATEVER THE INPUT: true; the input reads as it did. -/
def totalsValidateSpec : ChangeSpec := { name := "totalsValidate", fn := fun _ => fun
  | [d1, d2, d3] => { results := [.lit (.bool true)], args := [d1, d2, d3] }
  | _ => none }
def totalsValidateRow : OpenClaim := { program := "ytgkdmkjfcmilgaagreatdoor", sum := "7c52a40357a21b1a316e1dea400077466d581abd1a6e9c56428f4aea0f543e2d", func := "pairing/pairinglaw38.TotalsValidate", spec := "totalsValidate", inPlace := ["internal/bytealg.IndexByteString", "internal/bytealg.IndexString"], unfollowed := true, recurses := true, named := ["pairing/grammar.reserved", "internal/bytealg.MaxLen", "pairing/types.dutyNames", "pairing/types.restNames", "pairing/types.pairingNames", "pairing/types.dutyTypes", "pairing/types.restTypes", "pairing/types.pairingTypes"], apart := false, laid := [("pairing/grammar.reserved", laid_pairing_grammar_reserved), ("pairing/types.dutyNames", laid_pairing_types_dutyNames), ("pairing/types.restNames", laid_pairing_types_restNames), ("pairing/types.pairingNames", laid_pairing_types_pairingNames), ("pairing/types.pairingTypes", laid_pairing_types_pairingTypes)] }
def TotalsValidateSaid : Prop := totalsValidateRow.holds Tryz.pinned (OpenSpec.ofChange totalsValidateSpec)

/-- ITS FALSE NEIGHBOUR: 'it returns false'. Refute it at one input. -/
def totalsValidateWrong : ChangeSpec := { name := "totalsValidate", fn := fun _ => fun
  | [d1, d2, d3] => { results := [.lit (.bool false)], args := [d1, d2, d3] }
  | _ => none }
def TotalsValidateWrongFalsely : Prop := totalsValidateRow.holds Tryz.pinned (OpenSpec.ofChange totalsValidateWrong)

/-- 'pairinglaw38.TotalsPays': WHATEVER THE INPUT: true; the input reads as it did. -/
def totalsPaysSpec : ChangeSpec := { name := "totalsPays", fn := fun _ => fun
  | [d1, d2] => { results := [.lit (.bool true)], args := [d1, d2] }
  | _ => none }
def totalsPaysRow : OpenClaim := { program := "ytgkdmkjfcmilgaagreatdoor", sum := "7c52a40357a21b1a316e1dea400077466d581abd1a6e9c56428f4aea0f543e2d", func := "pairing/pairinglaw38.TotalsPays", spec := "totalsPays", inPlace := ["internal/bytealg.IndexByteString", "internal/bytealg.IndexString"], unfollowed := true, recurses := true, named := ["pairing/grammar.reserved", "internal/bytealg.MaxLen", "pairing/types.dutyNames", "pairing/types.restNames", "pairing/types.pairingNames", "pairing/types.dutyTypes", "pairing/types.restTypes", "pairing/types.pairingTypes"], apart := false, laid := [("pairing/grammar.reserved", laid_pairing_grammar_reserved), ("pairing/types.dutyNames", laid_pairing_types_dutyNames), ("pairing/types.restNames", laid_pairing_types_restNames), ("pairing/types.pairingNames", laid_pairing_types_pairingNames), ("pairing/types.pairingTypes", laid_pairing_types_pairingTypes)] }
def TotalsPaysSaid : Prop := totalsPaysRow.holds Tryz.pinned (OpenSpec.ofChange totalsPaysSpec)

/-- ITS FALSE NEIGHBOUR: 'it returns false'. Refute it at one input. -/
def totalsPaysWrong : ChangeSpec := { name := "totalsPays", fn := fun _ => fun
  | [d1, d2] => { results := [.lit (.bool false)], args := [d1, d2] }
  | _ => none }
def TotalsPaysWrongFalsely : Prop := totalsPaysRow.holds Tryz.pinned (OpenSpec.ofChange totalsPaysWrong)

/- THE SECOND FORM. 'bulk': how many values and letters a reading holds, each counted each time it is reached (what is shared counts as often as it is met; a slice's spare places count too). A statement '..UptoSaid' is the law's where the arguments, and the package variables that the reading takes, are together of bulk at most 1048576: NARROWER than '..Said'. Prove '..Said' where nothing that the law and all that it calls make is longer than what came in: it says more and counts as full. Else prove '..UptoSaid'. A law counts once. -/
mutual
def uptoBulk {H : Type} : DataW H → Nat
  | .lit (.string bytes) => bytes.length + 1
  | .lit _ => 1
  | .nil => 1
  | .ptr d => uptoBulk d + 1
  | .slice elems spare => uptoBulkAll elems + uptoBulkAll spare + 1
  | .agg parts => uptoBulkAll parts + 1
  | .iface _ d => uptoBulk d + 1
  | .map entries => uptoBulkEntries entries + 1
  | .held _ => 1
def uptoBulkAll {H : Type} : List (DataW H) → Nat
  | [] => 0
  | d :: r => uptoBulk d + uptoBulkAll r
def uptoBulkEntries {H : Type} : List (Lit × DataW H) → Nat
  | [] => 0
  | x :: r => uptoBulkEntry x + uptoBulkEntries r
def uptoBulkEntry {H : Type} : Lit × DataW H → Nat
  | (.string bytes, d) => bytes.length + uptoBulk d + 1
  | (_, d) => uptoBulk d + 1
 end
def uptoSmall : (H : Type) → List (DataW H) → Bool := fun _ ds => decide (uptoBulkAll ds ≤ 1048576)
def OpenSpec.upto (s : _root_.Go.ChangeSpec) : _root_.Go.OpenSpec := { _root_.Go.OpenSpec.ofChange s with cond := some uptoSmall }

/-- 'pairinglaw38.TotalsValidate', WHERE WHAT IT READS IS OF BULK AT MOST 1048576: true; the input reads as it did. -/
def totalsValidateUptoRow : OpenClaim := { program := "ytgkdmkjfcmilgaagreatdoor", sum := "7c52a40357a21b1a316e1dea400077466d581abd1a6e9c56428f4aea0f543e2d", func := "pairing/pairinglaw38.TotalsValidate", spec := "totalsValidate", inPlace := ["internal/bytealg.IndexByteString", "internal/bytealg.IndexString"], unfollowed := true, recurses := true, named := ["pairing/grammar.reserved", "internal/bytealg.MaxLen", "pairing/types.dutyNames", "pairing/types.restNames", "pairing/types.pairingNames", "pairing/types.dutyTypes", "pairing/types.restTypes", "pairing/types.pairingTypes"], apart := false, laid := [("pairing/grammar.reserved", laid_pairing_grammar_reserved), ("pairing/types.dutyNames", laid_pairing_types_dutyNames), ("pairing/types.restNames", laid_pairing_types_restNames), ("pairing/types.pairingNames", laid_pairing_types_pairingNames), ("pairing/types.pairingTypes", laid_pairing_types_pairingTypes)], narrowed := true }
def TotalsValidateUptoSaid : Prop := totalsValidateUptoRow.holds Tryz.pinned (OpenSpec.upto totalsValidateSpec)

/-- 'pairinglaw38.TotalsPays', WHERE WHAT IT READS IS OF BULK AT MOST 1048576: true; the input reads as it did. -/
def totalsPaysUptoRow : OpenClaim := { program := "ytgkdmkjfcmilgaagreatdoor", sum := "7c52a40357a21b1a316e1dea400077466d581abd1a6e9c56428f4aea0f543e2d", func := "pairing/pairinglaw38.TotalsPays", spec := "totalsPays", inPlace := ["internal/bytealg.IndexByteString", "internal/bytealg.IndexString"], unfollowed := true, recurses := true, named := ["pairing/grammar.reserved", "internal/bytealg.MaxLen", "pairing/types.dutyNames", "pairing/types.restNames", "pairing/types.pairingNames", "pairing/types.dutyTypes", "pairing/types.restTypes", "pairing/types.pairingTypes"], apart := false, laid := [("pairing/grammar.reserved", laid_pairing_grammar_reserved), ("pairing/types.dutyNames", laid_pairing_types_dutyNames), ("pairing/types.restNames", laid_pairing_types_restNames), ("pairing/types.pairingNames", laid_pairing_types_pairingNames), ("pairing/types.pairingTypes", laid_pairing_types_pairingTypes)], narrowed := true }
def TotalsPaysUptoSaid : Prop := totalsPaysUptoRow.holds Tryz.pinned (OpenSpec.upto totalsPaysSpec)

end Rows
end Go.Proofs.YtgkdmkjfcmilgaaGreatDoor
