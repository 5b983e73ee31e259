/- Plain laws on zones: LocalDays; the law ZoneDays. -/
import Derived.Test.YtbgojnjpkflofaaZp3
import Derived.Test.YtbgojnjpkflofaaPx5
import Derived.Test.YtbgojnjpkflofaaZOpen
namespace Go.Proofs.Ytbgojnjpkflofaa.Zp
open Go.RowKit Go.Proofs.YtbgojnjpkflofaaW.PrintWords Go.Proofs.YtbgojnjpkflofaaW.PrintLast Go.Proofs.YtbgojnjpkflofaaW.PrintMore
open Go.Proofs.Ytbgojnjpkflofaa.P
open Go.Proofs.Ytbgojnjpkflofaa.ZOpen (In64)

def spB (a b : Int) : Bool := decide (0 ≤ a) && (decide (a ≤ b) && decide (b ≤ 52596000))
theorem span_f (a b : Int) : zone_spanOK.f a b = some (spB a b) := by
  unfold zone_spanOK.f spB
  by_cases h : a ≥ 0
  · rw [if_pos h]
    by_cases h2 : a ≤ b
    · rw [if_pos h2]; simp [h, h2]
    · rw [if_neg h2]; simp [h2]
  · rw [if_neg h]; simp only [ge_iff_le] at h; simp [h]
theorem rspan_f (a b : Int) : pairingref5_span.f a b = some (spB a b) := by
  unfold pairingref5_span.f spB
  by_cases h : a ≥ 0
  · rw [if_pos h]
    by_cases h2 : a ≤ b
    · rw [if_pos h2]; simp [h, h2]
    · rw [if_neg h2]; simp [h2]
  · rw [if_neg h]; simp only [ge_iff_le] at h; simp [h]
theorem spB_iff {a b : Int} : spB a b = true ↔ 0 ≤ a ∧ a ≤ b ∧ b ≤ 52596000 := by simp [spB]
/-- What Light tells: at most 40 shifts; and either an invalid span or one of at most 20000 minutes. -/
theorem light_f (s : ByteArray) (o : Int) (l : List S52) (a b : Int) : ∃ q, pairinglaw7_Light.f s o l a b = some q ∧ (q = true → l.length ≤ 40 ∧ (wrap64 (b - a) ≤ 20000 ∨ b > 52596000 ∨ a < 0)) := by
  unfold pairinglaw7_Light.f
  by_cases h1 : (l.length : Int) ≤ 40
  · rw [if_pos h1]
    by_cases h2 : wrap64 (b - a) ≤ 20000
    · rw [if_pos h2]
      split
      · exact ⟨_, rfl, fun _ => ⟨by omega, .inl h2⟩⟩
      · exact ⟨_, rfl, fun _ => ⟨by omega, .inl h2⟩⟩
    · rw [if_neg h2]
      by_cases h3 : b > 52596000
      · rw [if_pos h3]
        split
        · exact ⟨_, rfl, fun _ => ⟨by omega, .inr (.inl h3)⟩⟩
        · exact ⟨_, rfl, fun _ => ⟨by omega, .inr (.inl h3)⟩⟩
      · rw [if_neg h3]
        by_cases h4 : a < 0
        · rw [if_pos h4]
          split
          · exact ⟨_, rfl, fun _ => ⟨by omega, .inr (.inr h4)⟩⟩
          · exact ⟨_, rfl, fun _ => ⟨by omega, .inr (.inr h4)⟩⟩
        · rw [if_neg h4]
          exact ⟨_, rfl, fun h => by cases h⟩
  · rw [if_neg h1]
    exact ⟨_, rfl, fun h => by cases h⟩

def locDays (s : ByteArray) (o : Int) (l : List S52) (a b : Int) : Int × Int × Int :=
  if valErr s o l = 0 then (if spB a b = true then (if a = b then (0, 0, 8) else ((locTime s o l a).1, (locTime s o l (b - 1)).1, 0)) else (0, 0, 5)) else (0, 0, valErr s o l)
theorem localDays (s : ByteArray) (o : Int) (l : List S52) (a b : Int) : Ev (fun k => zone_LocalDays.f k s o l a b) (locDays s o l a b) := by
  unfold zone_LocalDays.f
  refine Ev.bind (validate s o l) ?_
  unfold locDays
  simp only [span_f, Option.bind_some]
  by_cases h0 : valErr s o l = 0
  · simp only [if_pos h0]
    by_cases h1 : spB a b = true
    · simp only [if_pos h1]
      have hb := spB_iff.1 h1
      by_cases h2 : a = b
      · simp only [if_pos h2]; exact Ev.now _
      · simp only [if_neg h2]
        rw [wrap_id (by omega) (by omega)]
        exact Ev.bind (localTime s o l a) (Ev.bind (localTime s o l (b - 1)) (Ev.now _))
    · simp only [if_neg h1]; exact Ev.now _
  · simp only [if_neg h0]; exact Ev.now _
theorem rlocalDays (s : ByteArray) (o : Int) (l : List S52) (a b : Int) : Ev (fun k => pairingref5_LocalDays.f k s o l a b) (locDays s o l a b) := by
  unfold pairingref5_LocalDays.f
  refine Ev.bind (rvalidate s o l) ?_
  unfold locDays
  simp only [rspan_f, Option.bind_some]
  by_cases h0 : valErr s o l = 0
  · simp only [if_pos h0]
    by_cases h1 : spB a b = true
    · simp only [if_pos h1]
      have hb := spB_iff.1 h1
      by_cases h2 : a = b
      · simp only [if_pos h2]; exact Ev.now _
      · simp only [if_neg h2]
        rw [wrap_id (by omega) (by omega)]
        exact Ev.bind (rlocalTime s o l a) (Ev.bind (rlocalTime s o l (b - 1)) (Ev.now _))
    · simp only [if_neg h1]; exact Ev.now _
  · simp only [if_neg h0]; exact Ev.now _
theorem zoneDays_true (s : ByteArray) (o : Int) (l : List S52) (a b : Int) : Ev (fun k => pairinglaw7_ZoneDays.f k s o l a b) true := by
  unfold pairinglaw7_ZoneDays.f
  obtain ⟨q, hq, _⟩ := light_f s o l a b
  simp only [hq, Option.bind_some]
  cases q with
  | false => simp only [Bool.false_eq_true, if_false]; exact Ev.bind awake_true (Ev.now _)
  | true =>
    simp only [if_true]
    refine Ev.bind (localDays s o l a b) (Ev.bind (rlocalDays s o l a b) ?_)
    simp only [if_true]
    exact Ev.bind awake_true (Ev.now _)
end Go.Proofs.Ytbgojnjpkflofaa.Zp
