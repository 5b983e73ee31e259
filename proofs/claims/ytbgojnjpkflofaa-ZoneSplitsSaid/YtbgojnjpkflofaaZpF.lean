/- Plain laws on zones: what Light tells. No condition but those in each theorem. -/
import Derived.Test.YtbgojnjpkflofaaZpA
import Derived.Test.YtbgojnjpkflofaaPx5
namespace Go.Proofs.Ytbgojnjpkflofaa.Zp
open Go.RowKit Go.Proofs.YtbgojnjpkflofaaW.PrintWords Go.Proofs.YtbgojnjpkflofaaW.PrintLast Go.Proofs.YtbgojnjpkflofaaW.PrintMore
open Go.Proofs.Ytbgojnjpkflofaa.P

/-- What Light tells: at most 40 shifts; and either an invalid span or one of at most 20000 minutes. -/
theorem light_f (s : ByteArray) (o : Int) (l : List S52) (a b : Int) : ∃ q, pairinglaw7_Light.f s o l a b = some q ∧ (q = true → l.length ≤ 40 ∧ (wrap64 (b - a) ≤ 20000 ∨ b > 52596000 ∨ a < 0)) := by
  unfold pairinglaw7_Light.f
  by_cases h1 : (l.length : Int) ≤ 40
  · rw [if_pos h1]
    by_cases h2 : wrap64 (b - a) ≤ 20000
    · rw [if_pos h2]
      split
      · exact ⟨_, rfl, fun _ => ⟨by omega, .inl h2⟩⟩
      · exact ⟨_, rfl, fun _ => ⟨by omega, .inl h2⟩⟩
    · rw [if_neg h2]
      by_cases h3 : b > 52596000
      · rw [if_pos h3]
        split
        · exact ⟨_, rfl, fun _ => ⟨by omega, .inr (.inl h3)⟩⟩
        · exact ⟨_, rfl, fun _ => ⟨by omega, .inr (.inl h3)⟩⟩
      · rw [if_neg h3]
        by_cases h4 : a < 0
        · rw [if_pos h4]
          split
          · exact ⟨_, rfl, fun _ => ⟨by omega, .inr (.inr h4)⟩⟩
          · exact ⟨_, rfl, fun _ => ⟨by omega, .inr (.inr h4)⟩⟩
        · rw [if_neg h4]
          exact ⟨_, rfl, fun h => by cases h⟩
  · rw [if_neg h1]
    exact ⟨_, rfl, fun h => by cases h⟩
end Go.Proofs.Ytbgojnjpkflofaa.Zp
