/- The plain law ZoneOffsets: the law's function comes to true. No condition but those in each theorem. -/
import Derived.Test.YtbgojnjpkflofaaZpD
import Derived.Test.YtbgojnjpkflofaaPx17
namespace Go.Proofs.Ytbgojnjpkflofaa.Zp
open Go.RowKit Go.Proofs.YtbgojnjpkflofaaW.PrintWords Go.Proofs.YtbgojnjpkflofaaW.PrintLast Go.Proofs.YtbgojnjpkflofaaW.PrintMore
open Go.Proofs.Ytbgojnjpkflofaa.P

theorem zoneOffsets_true (s : ByteArray) (o : Int) (l : List S52) (t : Int) : Ev (fun k => pairinglaw7_ZoneOffsets.f k s o l t) true := by
  unfold pairinglaw7_ZoneOffsets.f
  by_cases h : (l.length : Int) > 40
  · simp only [if_pos h]
    exact Ev.bind awake_true (Ev.now _)
  · simp only [if_neg h]
    refine Ev.bind (offsetAt s o l t) (Ev.bind (roffsetAt s o l t) (Ev.bind (localMinute s o l t) (Ev.bind (rlocalMinute s o l t) (Ev.bind (localTime s o l t) (Ev.bind (rlocalTime s o l t) ?_)))))
    simp only [if_true]
    exact Ev.bind awake_true (Ev.now _)
end Go.Proofs.Ytbgojnjpkflofaa.Zp
