/- known(): the run. -/
import Derived.Test.YtgkdmkjfcmilgaaGreatDoorK2
set_option linter.unusedVariables false
set_option linter.unusedSimpArgs false
namespace Go.X
open Go.Proofs
noncomputable section
def namesR : List (List Nat) := [[97, 110, 100], [111, 114], [110, 111, 116], [105, 109, 112, 108, 105, 101, 115], [105, 110], [116, 111], [116, 114, 117, 101], [102, 97, 108, 115, 101], [109, 105, 110], [109, 97, 120], [105, 102], [116, 104, 101, 110], [101, 108, 115, 101]]
def hR : T Blk := match ofL (namesR.map .str) .e 0 with
  | some c => T.set .e 0 (.cells 13 c)
  | none => .e
def isTrue : R Ans → Bool
  | .ok ⟨.bool true, _, _, []⟩ => true
  | _ => false
def exS : CallT := exec Tryz.prog 8 overS 100000
theorem known_true : isTrue (exS 10 [] hR 8) = true := by kernel_rfl
end
end Go.X
