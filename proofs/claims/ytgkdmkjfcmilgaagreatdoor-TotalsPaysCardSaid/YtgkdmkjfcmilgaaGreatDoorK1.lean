/- Contract(0), and Check of it. -/
import Derived.Test.YtgkdmkjfcmilgaaGreatDoorYc
import Derived.Test.YtgkdmkjfcmilgaaGreatDoorProg
import Derived.KernelRfl
set_option linter.unusedVariables false
set_option linter.unusedSimpArgs false
namespace Go.X
open Go.Proofs
noncomputable section
def ex0 : CallT := exec Tryz.prog 8 id 100000
def isZero : R Ans → Bool
  | .ok ⟨.int .i64 (.ofNat 0), _, _, []⟩ => true
  | _ => false
def isSlc : V → Bool
  | .slc _ _ _ _ _ => true
  | .emp => true
  | .nils => true
  | _ => false
def chk11 : R Ans → Bool
  | .ok ⟨.agg [.int .i64 a, .int .i64 b, .int .i64 c, .int .i64 d, .int .i64 e, .int .i64 f, .int .i64 g, h, i, j, k, l, m, .int .i64 n], hp, nx, []⟩ =>
    ib (isSlc h) (ib (isSlc i) (ib (isSlc j) (ib (isSlc k) (ib (isSlc l) (ib (isSlc m)
      (isZero (ex0 13 [.agg [.int .i64 a, .int .i64 b, .int .i64 c, .int .i64 d, .int .i64 e, .int .i64 f, .int .i64 g, h, i, j, k, l, m, .int .i64 n]] hp nx)) false) false) false) false) false) false
  | _ => false
theorem chk11_true : chk11 (ex0 11 [.int .i64 0] .e 8) = true := by kernel_rfl
end
end Go.X
