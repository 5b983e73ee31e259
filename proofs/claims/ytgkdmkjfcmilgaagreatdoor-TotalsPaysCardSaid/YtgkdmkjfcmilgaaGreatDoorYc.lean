/- Closed runs, and what they say of calls. -/
import Derived.Test.YtgkdmkjfcmilgaaGreatDoorYb
import Derived.Below
set_option linter.unusedVariables false
set_option linter.unusedSimpArgs false
namespace Go.X
section
variable {P : Program} {G : Nat}
/-- The executor's heap against the model's. -/
structure HR (G : Nat) (μ : Nat → Nat × Nat) (A : Nat → Prop) (w : World) (h : T Blk) (nx : Nat) : Prop where
  dom : Dom h nx
  hp : ∀ k c, cof h.get k = some c → A k.1 ∧ CR μ A w k c
  inj : ∀ k k' c c', cof h.get k = some c → cof h.get k' = some c' → k.1 ≠ k'.1 → (μ k.1).1 ≠ (μ k'.1).1
  gl : ∀ g, g < G → A g ∧ μ g = (g, 0)
  fr : ∀ id, nx ≤ id → ¬ A id
theorem Fr.below {w w' : World} (h : Fr (fun _ _ => False) w w') : RowKit.Below w.heap.size w w' :=
  ⟨h.os, h.tape, h.output, h.size, fun k hk => h.obj k hk fun _ h => h⟩
/-- A call that turns nothing that was there. -/
theorem CallOK.closed {call : CallT} (hok : CallOK P G call) {g : FuncId} {args : List V} {h h' : T Blk} {nx nx' : Nat} {v : V} (hr : call g args h nx = .ok ⟨v, h', nx', []⟩) {μ : Nat → Nat × Nat} {A : Nat → Prop} {w : World} {xs : List Value}
    (hx : VRs μ A w args xs) (hh : HR G μ A w h nx) :
    Calls P g xs.toArray w fun e w' => ∃ y μ' A', e = .returned y ∧ RowKit.Below w.heap.size w w' ∧ Le μ μ' A A' w w' ∧ VR μ' A' w' v y ∧ HR G μ' A' w' h' nx' := by
  obtain ⟨hp, hs⟩ := (hok _ _ _ _ _ hr).2 hh.dom
  refine (hs μ A w xs hx hh.hp hh.inj hh.gl fun id h1 _ => hh.fr id h1).mono ?_
  rintro e w' ⟨y, μ', he, hq⟩
  have hkey : ∀ k, callKey nx ⟨v, h', nx', []⟩ k → nx ≤ k.1 ∧ k.1 < nx' := by
    rintro k (q | q)
    · exact q
    · simp at q
  have hfr : Fr (fun _ _ => False) w w' := hq.fr.mono fun b o _ ⟨k, c, h1, h2, _⟩ => by
    cases hx : cof h.get (k.1, c) with
    | none => exact h2 hx
    | some x => have := hh.dom _ x hx; have := (hkey k h1).1; omega
  have hold : ∀ k c, ¬ callKey nx ⟨v, h', nx', []⟩ k → cof h'.get k = some c → cof h.get k = some c := fun k c h1 h2 => by rw [← hp.same k h1]; exact h2
  have hnew : ∀ k c, callKey nx ⟨v, h', nx', []⟩ k → cof h'.get k = some c → w.heap.size ≤ (μ' k.1).1 := fun k c h1 h2 => by
    rcases hq.new k c h1 h2 (hh.fr k.1 (hkey k h1).1) with q | ⟨k', c', q1, q2, _⟩
    · exact q
    · have := hh.dom _ c' q1; have := (hkey _ (q2 0).1).1; omega
  have hltw : ∀ k c, cof h.get k = some c → (μ' k.1).1 < w.heap.size := fun k c h1 => by
    rw [hq.le.same _ (hh.hp k c h1).1]; exact (hh.hp k c h1).2.lt
  refine ⟨y, μ', _, he, hfr.below, hq.le, hq.res, ⟨hp.dom, fun k c h1 => ?_, fun k k' c c' h1 h2 hn => ?_, fun g hg => ⟨Or.inl (hh.gl g hg).1, by rw [hq.le.same _ (hh.gl g hg).1]; exact (hh.gl g hg).2⟩, ?_⟩⟩
  · by_cases hk : callKey nx ⟨v, h', nx', []⟩ k
    · exact hq.hp k c hk h1
    · have h2 := hold k c hk h1
      obtain ⟨h3, h4⟩ := hh.hp k c h2
      have hlt := h4.lt
      exact ⟨Or.inl h3, CR.up hq.le (hq.le.same _ h3) (hfr.cell _ _ hlt fun h => h) (fun o => hfr.froz _ o hlt) c (fun _ _ _ => hfr.obj _ hlt fun _ h => h) h4⟩
  · by_cases hk : callKey nx ⟨v, h', nx', []⟩ k
    · by_cases hk' : callKey nx ⟨v, h', nx', []⟩ k'
      · exact hq.inj k k' c c' hk hk' h1 h2 hn
      · have := hnew k c hk h1
        have := hltw k' c' (hold k' c' hk' h2)
        omega
    · by_cases hk' : callKey nx ⟨v, h', nx', []⟩ k'
      · have := hnew k' c' hk' h2
        have := hltw k c (hold k c hk h1)
        omega
      · have h3 := hold k c hk h1
        have h4 := hold k' c' hk' h2
        rw [hq.le.same _ (hh.hp k c h3).1, hq.le.same _ (hh.hp k' c' h4).1]
        exact hh.inj k k' c c' h3 h4 hn
  · rintro id h1 (h2 | ⟨_, h2⟩)
    · exact hh.fr id (Nat.le_trans hp.le h1) h2
    · simp only at h2; omega
/-- With no block told of. -/
theorem HR.empty (G : Nat) (w : World) : HR G (fun id => (id, 0)) (fun id => id < G) w .e G :=
  ⟨fun k c h => by simp [cof, T.get_e] at h, fun k c h => by simp [cof, T.get_e] at h, fun k k' c c' h => by simp [cof, T.get_e] at h, fun _ h => ⟨h, rfl⟩, fun _ h1 h2 => by omega⟩
end
end Go.X
