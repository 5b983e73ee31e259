/- Plain laws on zones: what the reference's OffsetAt, LocalMinute and LocalTime come to. No condition but those in each theorem. -/
import Derived.Test.YtbgojnjpkflofaaZpC
import Derived.Test.YtbgojnjpkflofaaPx4
namespace Go.Proofs.Ytbgojnjpkflofaa.Zp
open Go.RowKit Go.Proofs.YtbgojnjpkflofaaW.PrintWords Go.Proofs.YtbgojnjpkflofaaW.PrintLast Go.Proofs.YtbgojnjpkflofaaW.PrintMore
open Go.Proofs.Ytbgojnjpkflofaa.P

theorem roffsetAt (s : ByteArray) (o : Int) (l : List S52) (t : Int) : Ev (fun k => pairingref5_OffsetAt.f k s o l t) (if offErr s o l t = 0 then offAt o l t else 0, offErr s o l t) := by
  unfold pairingref5_OffsetAt.f
  refine Ev.bind (rvalidate s o l) ?_
  unfold offErr
  by_cases h0 : valErr s o l = 0
  · simp only [if_pos h0]
    obtain ⟨ho, hl, hc⟩ := chain_of_valid h0
    simp only [ins_f, Option.bind_some]
    by_cases h1 : insB t = true
    · simp only [if_pos h1]
      exact Ev.bind (roffset s o l hl t) (Ev.now _)
    · simp only [if_neg h1]
      exact Ev.now _
  · simp only [if_neg h0]
    exact Ev.now _
theorem rlocalMinute (s : ByteArray) (o : Int) (l : List S52) (t : Int) : Ev (fun k => pairingref5_LocalMinute.f k s o l t) (locMin s o l t, offErr s o l t) := by
  unfold pairingref5_LocalMinute.f
  refine Ev.bind (roffsetAt s o l t) ?_
  unfold locMin
  by_cases h : offErr s o l t = 0
  · have := off_bd h
    simp only [if_pos h]
    rw [wrap_id (by omega) (by omega), h]
    exact Ev.now _
  · simp only [if_neg h]; exact Ev.now _
theorem rlocalTime (s : ByteArray) (o : Int) (l : List S52) (t : Int) : Ev (fun k => pairingref5_LocalTime.f k s o l t) (locTime s o l t) := by
  unfold pairingref5_LocalTime.f
  refine Ev.bind (rlocalMinute s o l t) ?_
  unfold locTime
  by_cases h : offErr s o l t = 0
  · have := off_bd h
    simp only [if_pos h, locMin]
    rw [rsplit_f (by omega) (by omega)]
    exact Ev.now _
  · simp only [if_neg h]; exact Ev.now _
end Go.Proofs.Ytbgojnjpkflofaa.Zp
