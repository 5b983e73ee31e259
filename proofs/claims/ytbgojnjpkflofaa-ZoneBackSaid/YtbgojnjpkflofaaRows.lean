/-
  No cell of these rows narrows 'for every input' (looked for: loops, veiled, ifaces, maps, wideKeys, modest, calm, conditions, laid).
  DERIVED. THE GIVEN ROWS OF THIS SEAT. 8 by the template 'for every input the law returns true; each argument reads behind the call as it read before'; 0 by the template 'total and deterministic' (their statements: YtbgojnjpkflofaaTotals.lean).
  GIVEN WITH THE SEED: the statements are not yours to turn. If you find one false, say at which input.
  Laid BY PROGRAM, IN A SANDBOX (cutbox-rows.mjs): the forced cells as the released guide's own fill.sh prints them over the translation 57bb0f66ccbc05e8… (all of the seat's roots in one cut). By AI agents, Wed Nov 11 2026. No macro, syntax, notation, axiom, sorry.
-/
import Derived.Test.YtbgojnjpkflofaaChecked
import GoSem.Claim
import GoSem.ClaimJoined
import GoSem.ClaimMapViews
import Derived.JoinedTies
import Derived.KernelRfl
namespace Go.Proofs.Ytbgojnjpkflofaa
/- THE CELL 'sum', in the pinned program and in every row, IS THE sha256 OF THE DUMP (.gsa) THAT YtbgojnjpkflofaaProg.lean LOADS. Nothing in Lean hashes anything: it is a label: what it is worth is what the hold of that sum in a sandbox is worth. -/
noncomputable def Try.pinned : Pinned := { name := "ytbgojnjpkflofaa", sum := "57bb0f66ccbc05e8d24f4ee3f059a9869c4c54247e62c45fd7a38a95eca853ad", checked := Try.checked }
namespace Rows
def none {H : Type} : Left H := { results := [], args := [] }

/-- 'pairinglaw7.ZoneValid': WHATEVER THE INPUT: true; the input reads as it did. -/
def zoneValidSpec : ChangeSpec := { name := "zoneValid", fn := fun _ => fun
  | [d] => { results := [.lit (.bool true)], args := [d] }
  | _ => none }
def zoneValidRow : OpenClaim := { program := "ytbgojnjpkflofaa", sum := "57bb0f66ccbc05e8d24f4ee3f059a9869c4c54247e62c45fd7a38a95eca853ad", func := "pairing/pairinglaw7.ZoneValid", spec := "zoneValid", unfollowed := true, recurses := true, apart := false }
def ZoneValidSaid : Prop := zoneValidRow.holds Try.pinned (OpenSpec.ofChange zoneValidSpec)

/-- ITS FALSE NEIGHBOUR: 'it returns false'. Refute it at one input. -/
def zoneValidWrong : ChangeSpec := { name := "zoneValid", fn := fun _ => fun
  | [d] => { results := [.lit (.bool false)], args := [d] }
  | _ => none }
def ZoneValidWrongFalsely : Prop := zoneValidRow.holds Try.pinned (OpenSpec.ofChange zoneValidWrong)

/-- 'pairinglaw7.ZoneOffsets': WHATEVER THE INPUT: true; the input reads as it did. -/
def zoneOffsetsSpec : ChangeSpec := { name := "zoneOffsets", fn := fun _ => fun
  | [d1, d2] => { results := [.lit (.bool true)], args := [d1, d2] }
  | _ => none }
def zoneOffsetsRow : OpenClaim := { program := "ytbgojnjpkflofaa", sum := "57bb0f66ccbc05e8d24f4ee3f059a9869c4c54247e62c45fd7a38a95eca853ad", func := "pairing/pairinglaw7.ZoneOffsets", spec := "zoneOffsets", unfollowed := true, recurses := true, apart := false }
def ZoneOffsetsSaid : Prop := zoneOffsetsRow.holds Try.pinned (OpenSpec.ofChange zoneOffsetsSpec)

/-- ITS FALSE NEIGHBOUR: 'it returns false'. Refute it at one input. -/
def zoneOffsetsWrong : ChangeSpec := { name := "zoneOffsets", fn := fun _ => fun
  | [d1, d2] => { results := [.lit (.bool false)], args := [d1, d2] }
  | _ => none }
def ZoneOffsetsWrongFalsely : Prop := zoneOffsetsRow.holds Try.pinned (OpenSpec.ofChange zoneOffsetsWrong)

/-- 'pairinglaw7.ZoneDays': WHATEVER THE INPUT: true; the input reads as it did. -/
def zoneDaysSpec : ChangeSpec := { name := "zoneDays", fn := fun _ => fun
  | [d1, d2] => { results := [.lit (.bool true)], args := [d1, d2] }
  | _ => none }
def zoneDaysRow : OpenClaim := { program := "ytbgojnjpkflofaa", sum := "57bb0f66ccbc05e8d24f4ee3f059a9869c4c54247e62c45fd7a38a95eca853ad", func := "pairing/pairinglaw7.ZoneDays", spec := "zoneDays", unfollowed := true, recurses := true, apart := false }
def ZoneDaysSaid : Prop := zoneDaysRow.holds Try.pinned (OpenSpec.ofChange zoneDaysSpec)

/-- ITS FALSE NEIGHBOUR: 'it returns false'. Refute it at one input. -/
def zoneDaysWrong : ChangeSpec := { name := "zoneDays", fn := fun _ => fun
  | [d1, d2] => { results := [.lit (.bool false)], args := [d1, d2] }
  | _ => none }
def ZoneDaysWrongFalsely : Prop := zoneDaysRow.holds Try.pinned (OpenSpec.ofChange zoneDaysWrong)

/-- 'pairinglaw7.ZoneInstants': WHATEVER THE INPUT: true; the input reads as it did. -/
def zoneInstantsSpec : ChangeSpec := { name := "zoneInstants", fn := fun _ => fun
  | [d1, d2, d3] => { results := [.lit (.bool true)], args := [d1, d2, d3] }
  | _ => none }
def zoneInstantsRow : OpenClaim := { program := "ytbgojnjpkflofaa", sum := "57bb0f66ccbc05e8d24f4ee3f059a9869c4c54247e62c45fd7a38a95eca853ad", func := "pairing/pairinglaw7.ZoneInstants", spec := "zoneInstants", unfollowed := true, recurses := true, apart := false }
def ZoneInstantsSaid : Prop := zoneInstantsRow.holds Try.pinned (OpenSpec.ofChange zoneInstantsSpec)

/-- ITS FALSE NEIGHBOUR: 'it returns false'. Refute it at one input. -/
def zoneInstantsWrong : ChangeSpec := { name := "zoneInstants", fn := fun _ => fun
  | [d1, d2, d3] => { results := [.lit (.bool false)], args := [d1, d2, d3] }
  | _ => none }
def ZoneInstantsWrongFalsely : Prop := zoneInstantsRow.holds Try.pinned (OpenSpec.ofChange zoneInstantsWrong)

/-- 'pairinglaw7.ZoneBack': WHATEVER THE INPUT: true; the input reads as it did. -/
def zoneBackSpec : ChangeSpec := { name := "zoneBack", fn := fun _ => fun
  | [d1, d2] => { results := [.lit (.bool true)], args := [d1, d2] }
  | _ => none }
def zoneBackRow : OpenClaim := { program := "ytbgojnjpkflofaa", sum := "57bb0f66ccbc05e8d24f4ee3f059a9869c4c54247e62c45fd7a38a95eca853ad", func := "pairing/pairinglaw7.ZoneBack", spec := "zoneBack", unfollowed := true, recurses := true, apart := false }
def ZoneBackSaid : Prop := zoneBackRow.holds Try.pinned (OpenSpec.ofChange zoneBackSpec)

/-- ITS FALSE NEIGHBOUR: 'it returns false'. Refute it at one input. -/
def zoneBackWrong : ChangeSpec := { name := "zoneBack", fn := fun _ => fun
  | [d1, d2] => { results := [.lit (.bool false)], args := [d1, d2] }
  | _ => none }
def ZoneBackWrongFalsely : Prop := zoneBackRow.holds Try.pinned (OpenSpec.ofChange zoneBackWrong)

/-- 'pairinglaw7.ZoneSplits': WHATEVER THE INPUT: true; the input reads as it did. -/
def zoneSplitsSpec : ChangeSpec := { name := "zoneSplits", fn := fun _ => fun
  | [d1, d2, d3, d4, d5] => { results := [.lit (.bool true)], args := [d1, d2, d3, d4, d5] }
  | _ => none }
def zoneSplitsRow : OpenClaim := { program := "ytbgojnjpkflofaa", sum := "57bb0f66ccbc05e8d24f4ee3f059a9869c4c54247e62c45fd7a38a95eca853ad", func := "pairing/pairinglaw7.ZoneSplits", spec := "zoneSplits", unfollowed := true, recurses := true, apart := false }
def ZoneSplitsSaid : Prop := zoneSplitsRow.holds Try.pinned (OpenSpec.ofChange zoneSplitsSpec)

/-- ITS FALSE NEIGHBOUR: 'it returns false'. Refute it at one input. -/
def zoneSplitsWrong : ChangeSpec := { name := "zoneSplits", fn := fun _ => fun
  | [d1, d2, d3, d4, d5] => { results := [.lit (.bool false)], args := [d1, d2, d3, d4, d5] }
  | _ => none }
def ZoneSplitsWrongFalsely : Prop := zoneSplitsRow.holds Try.pinned (OpenSpec.ofChange zoneSplitsWrong)

/-- 'pairinglaw7.ZoneBands': WHATEVER THE INPUT: true; the input reads as it did. -/
def zoneBandsSpec : ChangeSpec := { name := "zoneBands", fn := fun _ => fun
  | [d1, d2, d3, d4] => { results := [.lit (.bool true)], args := [d1, d2, d3, d4] }
  | _ => none }
def zoneBandsRow : OpenClaim := { program := "ytbgojnjpkflofaa", sum := "57bb0f66ccbc05e8d24f4ee3f059a9869c4c54247e62c45fd7a38a95eca853ad", func := "pairing/pairinglaw7.ZoneBands", spec := "zoneBands", unfollowed := true, recurses := true, apart := false }
def ZoneBandsSaid : Prop := zoneBandsRow.holds Try.pinned (OpenSpec.ofChange zoneBandsSpec)

/-- ITS FALSE NEIGHBOUR: 'it returns false'. Refute it at one input. -/
def zoneBandsWrong : ChangeSpec := { name := "zoneBands", fn := fun _ => fun
  | [d1, d2, d3, d4] => { results := [.lit (.bool false)], args := [d1, d2, d3, d4] }
  | _ => none }
def ZoneBandsWrongFalsely : Prop := zoneBandsRow.holds Try.pinned (OpenSpec.ofChange zoneBandsWrong)

/-- 'pairinglaw7.ZoneUniform': WHATEVER THE INPUT: true; the input reads as it did. -/
def zoneUniformSpec : ChangeSpec := { name := "zoneUniform", fn := fun _ => fun
  | [d1, d2, d3, d4] => { results := [.lit (.bool true)], args := [d1, d2, d3, d4] }
  | _ => none }
def zoneUniformRow : OpenClaim := { program := "ytbgojnjpkflofaa", sum := "57bb0f66ccbc05e8d24f4ee3f059a9869c4c54247e62c45fd7a38a95eca853ad", func := "pairing/pairinglaw7.ZoneUniform", spec := "zoneUniform", unfollowed := true, recurses := true, apart := false }
def ZoneUniformSaid : Prop := zoneUniformRow.holds Try.pinned (OpenSpec.ofChange zoneUniformSpec)

/-- ITS FALSE NEIGHBOUR: 'it returns false'. Refute it at one input. -/
def zoneUniformWrong : ChangeSpec := { name := "zoneUniform", fn := fun _ => fun
  | [d1, d2, d3, d4] => { results := [.lit (.bool false)], args := [d1, d2, d3, d4] }
  | _ => none }
def ZoneUniformWrongFalsely : Prop := zoneUniformRow.holds Try.pinned (OpenSpec.ofChange zoneUniformWrong)

/- THE SECOND FORM. 'bulk': how many values and letters a reading holds, each counted each time it is reached (what is shared counts as often as it is met; a slice's spare places count too). A statement '..UptoSaid' is the law's where the arguments, and the package variables that the reading takes, are together of bulk at most 1048576: NARROWER than '..Said'. Prove '..Said' where nothing that the law and all that it calls make is longer than what came in: it says more and counts as full. Else prove '..UptoSaid'. A law counts once. -/
mutual
def uptoBulk {H : Type} : DataW H → Nat
  | .lit (.string bytes) => bytes.length + 1
  | .lit _ => 1
  | .nil => 1
  | .ptr d => uptoBulk d + 1
  | .slice elems spare => uptoBulkAll elems + uptoBulkAll spare + 1
  | .agg parts => uptoBulkAll parts + 1
  | .iface _ d => uptoBulk d + 1
  | .map entries => uptoBulkEntries entries + 1
  | .held _ => 1
def uptoBulkAll {H : Type} : List (DataW H) → Nat
  | [] => 0
  | d :: r => uptoBulk d + uptoBulkAll r
def uptoBulkEntries {H : Type} : List (Lit × DataW H) → Nat
  | [] => 0
  | x :: r => uptoBulkEntry x + uptoBulkEntries r
def uptoBulkEntry {H : Type} : Lit × DataW H → Nat
  | (.string bytes, d) => bytes.length + uptoBulk d + 1
  | (_, d) => uptoBulk d + 1
 end
def uptoSmall : (H : Type) → List (DataW H) → Bool := fun _ ds => decide (uptoBulkAll ds ≤ 1048576)
def OpenSpec.upto (s : _root_.Go.ChangeSpec) : _root_.Go.OpenSpec := { _root_.Go.OpenSpec.ofChange s with cond := some uptoSmall }

/-- 'pairinglaw7.ZoneValid', WHERE WHAT IT READS IS OF BULK AT MOST 1048576: true; the input reads as it did. -/
def zoneValidUptoRow : OpenClaim := { program := "ytbgojnjpkflofaa", sum := "57bb0f66ccbc05e8d24f4ee3f059a9869c4c54247e62c45fd7a38a95eca853ad", func := "pairing/pairinglaw7.ZoneValid", spec := "zoneValid", unfollowed := true, recurses := true, apart := false, narrowed := true }
def ZoneValidUptoSaid : Prop := zoneValidUptoRow.holds Try.pinned (OpenSpec.upto zoneValidSpec)

/-- 'pairinglaw7.ZoneOffsets', WHERE WHAT IT READS IS OF BULK AT MOST 1048576: true; the input reads as it did. -/
def zoneOffsetsUptoRow : OpenClaim := { program := "ytbgojnjpkflofaa", sum := "57bb0f66ccbc05e8d24f4ee3f059a9869c4c54247e62c45fd7a38a95eca853ad", func := "pairing/pairinglaw7.ZoneOffsets", spec := "zoneOffsets", unfollowed := true, recurses := true, apart := false, narrowed := true }
def ZoneOffsetsUptoSaid : Prop := zoneOffsetsUptoRow.holds Try.pinned (OpenSpec.upto zoneOffsetsSpec)

/-- 'pairinglaw7.ZoneDays', WHERE WHAT IT READS IS OF BULK AT MOST 1048576: true; the input reads as it did. -/
def zoneDaysUptoRow : OpenClaim := { program := "ytbgojnjpkflofaa", sum := "57bb0f66ccbc05e8d24f4ee3f059a9869c4c54247e62c45fd7a38a95eca853ad", func := "pairing/pairinglaw7.ZoneDays", spec := "zoneDays", unfollowed := true, recurses := true, apart := false, narrowed := true }
def ZoneDaysUptoSaid : Prop := zoneDaysUptoRow.holds Try.pinned (OpenSpec.upto zoneDaysSpec)

/-- 'pairinglaw7.ZoneInstants', WHERE WHAT IT READS IS OF BULK AT MOST 1048576: true; the input reads as it did. -/
def zoneInstantsUptoRow : OpenClaim := { program := "ytbgojnjpkflofaa", sum := "57bb0f66ccbc05e8d24f4ee3f059a9869c4c54247e62c45fd7a38a95eca853ad", func := "pairing/pairinglaw7.ZoneInstants", spec := "zoneInstants", unfollowed := true, recurses := true, apart := false, narrowed := true }
def ZoneInstantsUptoSaid : Prop := zoneInstantsUptoRow.holds Try.pinned (OpenSpec.upto zoneInstantsSpec)

/-- 'pairinglaw7.ZoneBack', WHERE WHAT IT READS IS OF BULK AT MOST 1048576: true; the input reads as it did. -/
def zoneBackUptoRow : OpenClaim := { program := "ytbgojnjpkflofaa", sum := "57bb0f66ccbc05e8d24f4ee3f059a9869c4c54247e62c45fd7a38a95eca853ad", func := "pairing/pairinglaw7.ZoneBack", spec := "zoneBack", unfollowed := true, recurses := true, apart := false, narrowed := true }
def ZoneBackUptoSaid : Prop := zoneBackUptoRow.holds Try.pinned (OpenSpec.upto zoneBackSpec)

/-- 'pairinglaw7.ZoneSplits', WHERE WHAT IT READS IS OF BULK AT MOST 1048576: true; the input reads as it did. -/
def zoneSplitsUptoRow : OpenClaim := { program := "ytbgojnjpkflofaa", sum := "57bb0f66ccbc05e8d24f4ee3f059a9869c4c54247e62c45fd7a38a95eca853ad", func := "pairing/pairinglaw7.ZoneSplits", spec := "zoneSplits", unfollowed := true, recurses := true, apart := false, narrowed := true }
def ZoneSplitsUptoSaid : Prop := zoneSplitsUptoRow.holds Try.pinned (OpenSpec.upto zoneSplitsSpec)

/-- 'pairinglaw7.ZoneBands', WHERE WHAT IT READS IS OF BULK AT MOST 1048576: true; the input reads as it did. -/
def zoneBandsUptoRow : OpenClaim := { program := "ytbgojnjpkflofaa", sum := "57bb0f66ccbc05e8d24f4ee3f059a9869c4c54247e62c45fd7a38a95eca853ad", func := "pairing/pairinglaw7.ZoneBands", spec := "zoneBands", unfollowed := true, recurses := true, apart := false, narrowed := true }
def ZoneBandsUptoSaid : Prop := zoneBandsUptoRow.holds Try.pinned (OpenSpec.upto zoneBandsSpec)

/-- 'pairinglaw7.ZoneUniform', WHERE WHAT IT READS IS OF BULK AT MOST 1048576: true; the input reads as it did. -/
def zoneUniformUptoRow : OpenClaim := { program := "ytbgojnjpkflofaa", sum := "57bb0f66ccbc05e8d24f4ee3f059a9869c4c54247e62c45fd7a38a95eca853ad", func := "pairing/pairinglaw7.ZoneUniform", spec := "zoneUniform", unfollowed := true, recurses := true, apart := false, narrowed := true }
def ZoneUniformUptoSaid : Prop := zoneUniformUptoRow.holds Try.pinned (OpenSpec.upto zoneUniformSpec)

end Rows
end Go.Proofs.Ytbgojnjpkflofaa
