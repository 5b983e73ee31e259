/- The plain law ZoneDays: the law's function comes to true. No condition but those in each theorem. -/
import Derived.Test.YtbgojnjpkflofaaZpD
import Derived.Test.YtbgojnjpkflofaaZpF
import Derived.Test.YtbgojnjpkflofaaPx6
namespace Go.Proofs.Ytbgojnjpkflofaa.Zp
open Go.RowKit Go.Proofs.YtbgojnjpkflofaaW.PrintWords Go.Proofs.YtbgojnjpkflofaaW.PrintLast Go.Proofs.YtbgojnjpkflofaaW.PrintMore
open Go.Proofs.Ytbgojnjpkflofaa.P

def locDays (s : ByteArray) (o : Int) (l : List S52) (a b : Int) : Int × Int × Int :=
  if valErr s o l = 0 then (if spB a b = true then (if a = b then (0, 0, 8) else ((locTime s o l a).1, (locTime s o l (b - 1)).1, 0)) else (0, 0, 5)) else (0, 0, valErr s o l)
theorem localDays (s : ByteArray) (o : Int) (l : List S52) (a b : Int) : Ev (fun k => zone_LocalDays.f k s o l a b) (locDays s o l a b) := by
  unfold zone_LocalDays.f
  refine Ev.bind (validate s o l) ?_
  unfold locDays
  simp only [span_f, Option.bind_some]
  by_cases h0 : valErr s o l = 0
  · simp only [if_pos h0]
    by_cases h1 : spB a b = true
    · simp only [if_pos h1]
      have hb := spB_iff.1 h1
      by_cases h2 : a = b
      · simp only [if_pos h2]; exact Ev.now _
      · simp only [if_neg h2]
        rw [wrap_id (by omega) (by omega)]
        exact Ev.bind (localTime s o l a) (Ev.bind (localTime s o l (b - 1)) (Ev.now _))
    · simp only [if_neg h1]; exact Ev.now _
  · simp only [if_neg h0]; exact Ev.now _
theorem rlocalDays (s : ByteArray) (o : Int) (l : List S52) (a b : Int) : Ev (fun k => pairingref5_LocalDays.f k s o l a b) (locDays s o l a b) := by
  unfold pairingref5_LocalDays.f
  refine Ev.bind (rvalidate s o l) ?_
  unfold locDays
  simp only [rspan_f, Option.bind_some]
  by_cases h0 : valErr s o l = 0
  · simp only [if_pos h0]
    by_cases h1 : spB a b = true
    · simp only [if_pos h1]
      have hb := spB_iff.1 h1
      by_cases h2 : a = b
      · simp only [if_pos h2]; exact Ev.now _
      · simp only [if_neg h2]
        rw [wrap_id (by omega) (by omega)]
        exact Ev.bind (rlocalTime s o l a) (Ev.bind (rlocalTime s o l (b - 1)) (Ev.now _))
    · simp only [if_neg h1]; exact Ev.now _
  · simp only [if_neg h0]; exact Ev.now _
theorem zoneDays_true (s : ByteArray) (o : Int) (l : List S52) (a b : Int) : Ev (fun k => pairinglaw7_ZoneDays.f k s o l a b) true := by
  unfold pairinglaw7_ZoneDays.f
  obtain ⟨q, hq, _⟩ := light_f s o l a b
  simp only [hq, Option.bind_some]
  cases q with
  | false => simp only [Bool.false_eq_true, if_false]; exact Ev.bind awake_true (Ev.now _)
  | true =>
    simp only [if_true]
    refine Ev.bind (localDays s o l a b) (Ev.bind (rlocalDays s o l a b) ?_)
    simp only [if_true]
    exact Ev.bind awake_true (Ev.now _)
end Go.Proofs.Ytbgojnjpkflofaa.Zp
