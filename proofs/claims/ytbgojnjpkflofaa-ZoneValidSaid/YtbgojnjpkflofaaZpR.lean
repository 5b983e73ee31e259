/- The plain law ZoneValid: the law's function comes to true. No condition but those in each theorem. -/
import Derived.Test.YtbgojnjpkflofaaZpB
import Derived.Test.YtbgojnjpkflofaaPx16
namespace Go.Proofs.Ytbgojnjpkflofaa.Zp
open Go.RowKit Go.Proofs.YtbgojnjpkflofaaW.PrintWords Go.Proofs.YtbgojnjpkflofaaW.PrintLast Go.Proofs.YtbgojnjpkflofaaW.PrintMore
open Go.Proofs.Ytbgojnjpkflofaa.P

theorem zoneValid_true (s : ByteArray) (o : Int) (l : List S52) : Ev (fun k => pairinglaw7_ZoneValid.f k s o l) true := by
  unfold pairinglaw7_ZoneValid.f
  by_cases h : (l.length : Int) > 40
  · simp only [if_pos h]
    exact Ev.bind awake_true (Ev.now _)
  · simp only [if_neg h]
    refine Ev.bind (validate s o l) (Ev.bind (rvalidate s o l) ?_)
    simp only [if_true]
    exact Ev.bind awake_true (Ev.now _)
end Go.Proofs.Ytbgojnjpkflofaa.Zp
