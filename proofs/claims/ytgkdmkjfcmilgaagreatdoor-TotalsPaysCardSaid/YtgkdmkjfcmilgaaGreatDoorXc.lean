/- One operation of a region, and a region in whatever order: what holds of a state holds of the next. -/
import Derived.Test.YtgkdmkjfcmilgaaGreatDoorXb
set_option linter.unusedVariables false
set_option linter.unusedSimpArgs false
namespace Go.X
/-- A block turned: whole, or the cells from the one number up to the other. -/
abbrev Tch := Nat × Option (Nat × Nat)
def Tch.has (e : Tch) (k : K) : Prop := e.1 = k.1 ∧ ∀ r, e.2 = some r → r.1 ≤ k.2 ∧ k.2 < r.2
structure Rec where
  i : Nat
  dst : Option Tmp
  v : V
  lo : Nat
  hi : Nat
  tch : List Tch
  h : T Blk
def Rec.old (r : Rec) (k : K) : Prop := ∃ e ∈ r.tch, e.has k
def Rec.key (r : Rec) (k : K) : Prop := (r.lo ≤ k.1 ∧ k.1 < r.hi) ∨ r.old k
/-- What holds between the executor's state and the model's, `μ` telling where each block lies; `0`: when the function was entered. -/
structure Inv (μ0 : Nat → Nat × Nat) (A0 : Nat → Prop) (w0 : World) (base N : Nat) (tch : List Nat)
    (τ : Nat → Option V) (η : K → Option Cell) (A : Nat → Prop) (μ : Nat → Nat × Nat) (a : Act) (w : World) : Prop where
  defers : a.defers = []
  size : a.tmps.size = N
  old : ∀ i, A0 i → A i ∧ μ i = μ0 i
  tm : ∀ t v, τ t = some v → VR μ A w v (a.tmps.getD t undef)
  hp : ∀ k c, η k = some c → A k.1 ∧ CR μ A w k c
  inj : ∀ k k' c c', η k = some c → η k' = some c' → k.1 ≠ k'.1 → (μ k.1).1 ≠ (μ k'.1).1
  sp : ∀ k c, η k = some c → (k.1 < base ∧ A0 k.1) ∨ (base ≤ k.1 ∧ ¬ A0 k.1)
  new : ∀ k c, η k = some c → ¬ A0 k.1 → w0.heap.size ≤ (μ k.1).1 ∨ ∃ t ∈ tch, (μ k.1).1 = (μ0 t).1
  fr : Fr (fun c _ => ∃ t ∈ tch, c = (μ0 t).1) w0 w
/-- What one operation leaves. -/
structure Post (acc : K → Option Cell) (key : K → Prop) (val : K → Option Cell) (v : V) (A' : Nat → Prop) (A : Nat → Prop)
    (μ μ' : Nat → Nat × Nat) (w w' : World) (y : Value) : Prop where
  le : Le μ μ' A A' w w'
  res : VR μ' A' w' v y
  hp : ∀ k c, key k → val k = some c → A' k.1 ∧ CR μ' A' w' k c
  inj : ∀ k k' c c', key k → key k' → val k = some c → val k' = some c' → k.1 ≠ k'.1 → (μ' k.1).1 ≠ (μ' k'.1).1
  new : ∀ k c, key k → val k = some c → ¬ A k.1 → w.heap.size ≤ (μ' k.1).1 ∨ ∃ k' c', acc k' = some c' ∧ (∀ j, key (k'.1, j) ∧ val (k'.1, j) = none) ∧ (μ' k.1).1 = (μ k'.1).1
  fr : Fr (fun b o => ∃ k c, key k ∧ acc (k.1, c) ≠ none ∧ b = (μ k.1).1 ∧ (o = (μ k.1).2 + k.2 ∨ ∀ j, key (k.1, j))) w w'
/-- An operation does what the executor says, wherever its operands and the blocks that it may look at are as they were there. -/
def OpSound (P : Program) (ops : Array Oper) (N : Nat) (i : Nat) (o : Oper) (G : Nat) (τ : Nat → Option V) (acc : K → Option Cell) (key : K → Prop) (val : K → Option Cell) (v : V) (lo hi : Nat) : Prop :=
  ∀ (μ : Nat → Nat × Nat) (A : Nat → Prop) (w : World) (a : Act) (Q : Exit → Act → World → Prop) (K' : Act → World → Prop),
    a.defers = [] → a.tmps.size = N → (∀ g, g < G → A g ∧ μ g = (g, 0)) →
    (∀ t v, t ∈ o.looksAt ops → τ t = some v → VR μ A w v (a.tmps.getD t undef)) →
    (∀ k c, acc k = some c → A k.1 ∧ CR μ A w k c) →
    (∀ k k' c c', acc k = some c → acc k' = some c' → k.1 ≠ k'.1 → (μ k.1).1 ≠ (μ k'.1).1) →
    (∀ id, lo ≤ id → id < hi → ¬ A id) →
    (∀ y w' μ', Post acc key val v (fun id => A id ∨ (lo ≤ id ∧ id < hi)) A μ μ' w w' y → K' (a.put o.dst y) w') →
    wpOp P ops Q i K' a w
theorem put_getD {a : Act} {d : Tmp} {y : Value} (h : d < a.tmps.size) (t : Nat) : (a.put (some d) y).tmps.getD t undef = if d = t then y else a.tmps.getD t undef := by
  simp only [Act.put, Array.getD_eq_getD_getElem?, Array.getElem?_setIfInBounds]
  by_cases e : d = t
  · subst e; simp [h]
  · simp [e]
section
variable {P : Program} {ops : Array Oper} {Q : Exit → Act → World → Prop} {μ0 : Nat → Nat × Nat} {A0 : Nat → Prop} {w0 : World} {base N G : Nat}
/-- One operation, from a state to the next. -/
theorem OpSound.step {i : Nat} {o : Oper} {τi : Nat → Option V} {acc : K → Option Cell} {key : K → Prop} {val : K → Option Cell} {v : V} {lo hi : Nat}
    (ho : OpSound P ops N i o G τi acc key val v lo hi) (hd : ∀ d, o.dst = some d → d < N)
    (hkey : ∀ k, key k → (lo ≤ k.1 ∧ k.1 < hi) ∨ acc k ≠ none ∨ ((∃ j, acc (k.1, j) ≠ none) ∧ ∀ j, key (k.1, j)))
    (hbase : base ≤ lo) (hG : ∀ g, g < G → A0 g ∧ μ0 g = (g, 0))
    {tch : List Nat} {τ τ' : Nat → Option V} {η η' : K → Option Cell} {A A' : Nat → Prop} {μ : Nat → Nat × Nat} {a : Act} {w : World} {K' : Act → World → Prop}
    (hI : Inv μ0 A0 w0 base N tch τ η A μ a w)
    (hτ : ∀ t v, t ∈ o.looksAt ops → τi t = some v → τ t = some v)
    (hacc : ∀ k c, acc k = some c → η k = some c)
    (hfresh : ∀ id, lo ≤ id → id < hi → ¬ A id)
    (htch : ∀ k j, acc (k.1, j) ≠ none → key k → k.1 < base → k.1 ∈ tch)
    (hτ' : ∀ t u, τ' t = some u → (o.dst = some t ∧ u = v) ∨ (o.dst ≠ some t ∧ τ t = some u))
    (hη' : ∀ k c, η' k = some c → (key k ∧ val k = some c) ∨ (¬ key k ∧ η k = some c))
    (hA' : ∀ id, A' id ↔ (A id ∨ (lo ≤ id ∧ id < hi)))
    (hK : ∀ a' w' μ', Inv μ0 A0 w0 base N tch τ' η' A' μ' a' w' → K' a' w') :
    wpOp P ops Q i K' a w := by
  obtain rfl : A' = fun id => A id ∨ (lo ≤ id ∧ id < hi) := funext fun id => propext (hA' id)
  refine ho μ A w a Q K' hI.defers hI.size (fun g hg => ⟨(hI.old g (hG g hg).1).1, by rw [(hI.old g (hG g hg).1).2]; exact (hG g hg).2⟩)
    (fun t v ht hv => hI.tm t v (hτ t v ht hv)) (fun k c h1 => hI.hp k c (hacc k c h1))
    (fun k k' c c' h1 h2 => hI.inj k k' c c' (hacc _ _ h1) (hacc _ _ h2)) hfresh (fun y w' μ' hp => hK _ w' μ' ?_)
  have hsz : ∀ k c, η k = some c → (μ k.1).1 < w.heap.size := fun k c h1 => (hI.hp k c h1).2.lt
  have hA0lo : ∀ id, lo ≤ id → id < hi → ¬ A0 id := fun id h1 h2 h3 => hfresh id h1 h2 (hI.old id h3).1
  have hsome : ∀ k, acc k ≠ none → ∃ c, η k = some c := by
    intro k h
    cases e : acc k with
    | none => exact absurd e h
    | some c => exact ⟨c, hacc k c e⟩
  -- a live block of the number of a turned one
  have hkid : ∀ k, key k → A k.1 → ∃ j c, acc (k.1, j) ≠ none ∧ η (k.1, j) = some c := by
    intro k h1 h2
    rcases hkey k h1 with ⟨h3, h4⟩ | h3 | ⟨⟨j, h3⟩, _⟩
    · exact absurd h2 (hfresh k.1 h3 h4)
    · obtain ⟨c, hc⟩ := hsome k h3; exact ⟨k.2, c, h3, hc⟩
    · obtain ⟨c, hc⟩ := hsome _ h3; exact ⟨j, c, h3, hc⟩
  -- a cell that is not turned lies elsewhere
  have hne : ∀ k c, η k = some c → ¬ key k → ∀ k' j, key k' → acc (k'.1, j) ≠ none → ¬ ((μ k.1).1 = (μ k'.1).1 ∧ ((μ k.1).2 + k.2 = (μ k'.1).2 + k'.2 ∨ ∀ j, key (k'.1, j))) := by
    intro k c h1 h2 k' j h3 h4 ⟨h5, h6⟩
    obtain ⟨c', h7⟩ := hsome _ h4
    by_cases e : k.1 = k'.1
    · rw [e] at h6
      rcases h6 with h6 | h6
      · have : k = k' := Prod.ext e (by omega)
        exact h2 (this ▸ h3)
      · exact h2 (by have := h6 k.2; rw [← e] at this; exact this)
    · exact hI.inj k (k'.1, j) c c' h1 h7 e h5
  have hkept : ∀ k c, η k = some c → ¬ key k → w'.cell? (at_ μ k) = w.cell? (at_ μ k) ∧ ∀ o, w'.frozen? ⟨(μ k.1).1, o, none⟩ = w.frozen? ⟨(μ k.1).1, o, none⟩ := by
    intro k c h1 h3
    refine ⟨?_, fun o => hp.fr.froz _ o (hsz k c h1)⟩
    exact hp.fr.cell _ _ (hsz k c h1) (fun ⟨k', j, h4, h5, h6, h7⟩ => hne k c h1 h3 k' j h4 h5 ⟨h6, h7⟩)
  have hmap : ∀ k es ck, η k = some (.mp es ck) → ¬ key k → w'.heap[(μ k.1).1]? = w.heap[(μ k.1).1]? := by
    intro k es ck h1 h3
    refine hp.fr.obj _ (hsz k _ h1) (fun o ⟨k', j, h4, h5, h6, h7⟩ => ?_)
    obtain ⟨c', h8⟩ := hsome _ h5
    by_cases e : k.1 = k'.1
    · rcases hkey k' h4 with ⟨e1, e2⟩ | e1 | ⟨_, e1⟩
      · exact hfresh _ e1 e2 (e ▸ (hI.hp k _ h1).1)
      · obtain ⟨c2, h9⟩ := hsome _ e1
        have := (hI.hp k _ h1).2.alone (hI.hp k' c2 h9).2 e
        exact h3 (this ▸ h4)
      · have := e1 k.2
        rw [← e] at this
        exact h3 this
    · exact hI.inj k (k'.1, j) _ c' h1 h8 e h6
  -- an old block's place
  have htold : ∀ k j, acc (k.1, j) ≠ none → key k → (w0.heap.size ≤ (μ k.1).1 ∨ ∃ s ∈ tch, (μ k.1).1 = (μ0 s).1) := by
    intro k j h1 h3
    obtain ⟨c, h2⟩ := hsome _ h1
    rcases hI.sp _ c h2 with ⟨h4, h5⟩ | ⟨h4, h5⟩
    · exact Or.inr ⟨k.1, htch k j h1 h3 h4, by rw [(hI.old k.1 h5).2]⟩
    · exact hI.new (k.1, j) c h2 h5
  have hnewof : ∀ k c, key k → val k = some c → ¬ A0 k.1 → (w0.heap.size ≤ (μ' k.1).1 ∨ ∃ s ∈ tch, (μ' k.1).1 = (μ0 s).1) := by
    intro k c h1 h2 h4
    by_cases hA : A k.1
    · obtain ⟨j, c', h5, h6⟩ := hkid k h1 hA
      rw [hp.le.same _ hA]; exact htold k j h5 h1
    · rcases hp.new k c h1 h2 hA with h5 | ⟨k', c', h5, h6, h8⟩
      · exact Or.inl (Nat.le_trans hI.fr.size h5)
      · rw [h8]; exact htold k' k'.2 (by rw [show (k'.1, k'.2) = k' from rfl, h5]; simp) (h6 k'.2).1
  refine ⟨?_, ?_, ?_, ?_, ?_, ?_, ?_, ?_, ?_⟩
  · cases o.dst <;> exact hI.defers
  · cases o.dst <;> simp [Act.put, hI.size]
  · exact fun i hi => ⟨Or.inl (hI.old i hi).1, (hp.le.same i (hI.old i hi).1).trans (hI.old i hi).2⟩
  · intro t u hu
    rcases hτ' t u hu with ⟨h1, rfl⟩ | ⟨h1, h2⟩
    · rw [h1, put_getD (by rw [hI.size]; exact hd t h1), if_pos rfl]; exact hp.res
    · have h3 := VR.up hp.le _ _ (hI.tm t u h2)
      cases hdst : o.dst with
      | none => exact h3
      | some d => rw [put_getD (by rw [hI.size]; exact hd d hdst), if_neg (fun e => h1 (by rw [hdst, e]))]; exact h3
  · intro k c h1
    rcases hη' k c h1 with ⟨h3, h4⟩ | ⟨h3, h4⟩
    · exact hp.hp k c h3 h4
    · obtain ⟨h5, h6⟩ := hI.hp k c h4
      obtain ⟨h7, h8⟩ := hkept k c h4 h3
      exact ⟨Or.inl h5, CR.up hp.le (hp.le.same k.1 h5) h7 h8 c (fun es ck e => hmap k es ck (e ▸ h4) h3) h6⟩
  · intro k k' c c' h1 h2 hn
    have main : ∀ k k' c c', η' k = some c → η' k' = some c' → k.1 ≠ k'.1 → key k → ¬ key k' → (μ' k.1).1 ≠ (μ' k'.1).1 := by
      intro k k' c c' h1 h2 hn k1 k2
      obtain ⟨_, hv⟩ := (hη' k c h1).resolve_right fun h => h.1 k1
      obtain ⟨_, he⟩ := (hη' k' c' h2).resolve_left fun h => k2 h.1
      have hA := (hI.hp k' c' he).1
      rw [hp.le.same _ hA]
      by_cases hAi : A k.1
      · obtain ⟨j, c2, h5, h6⟩ := hkid k k1 hAi
        rw [hp.le.same _ hAi]; exact hI.inj (k.1, j) k' c2 c' h6 he hn
      · rcases hp.new k c k1 hv hAi with h5 | ⟨t, c2, h5, h6, h8⟩
        · have := hsz k' c' he; omega
        · rw [h8]
          refine hI.inj t k' c2 c' (hacc _ _ h5) he ?_
          intro e
          have := (h6 k'.2).1
          rw [e] at this; exact k2 this
    by_cases k1 : key k
    · by_cases k2 : key k'
      · obtain ⟨_, hv⟩ := (hη' k c h1).resolve_right fun h => h.1 k1
        obtain ⟨_, hv'⟩ := (hη' k' c' h2).resolve_right fun h => h.1 k2
        exact hp.inj k k' c c' k1 k2 hv hv' hn
      · exact main k k' c c' h1 h2 hn k1 k2
    · by_cases k2 : key k'
      · exact (main k' k c' c h2 h1 (Ne.symm hn) k2 k1).symm
      · obtain ⟨_, he⟩ := (hη' k c h1).resolve_left fun h => k1 h.1
        obtain ⟨_, he'⟩ := (hη' k' c' h2).resolve_left fun h => k2 h.1
        rw [hp.le.same _ (hI.hp k c he).1, hp.le.same _ (hI.hp k' c' he').1]
        exact hI.inj k k' c c' he he' hn
  · intro k c h1
    rcases hη' k c h1 with ⟨h3, h4⟩ | ⟨h3, h4⟩
    · by_cases hA : A k.1
      · obtain ⟨j, c', h5, h6⟩ := hkid k h3 hA
        exact hI.sp (k.1, j) c' h6
      · rcases hkey k h3 with ⟨h5, h6⟩ | h5 | ⟨⟨j, h5⟩, _⟩
        · exact Or.inr ⟨Nat.le_trans hbase h5, hA0lo k.1 h5 h6⟩
        · obtain ⟨c', h6⟩ := hsome _ h5; exact absurd (hI.hp _ c' h6).1 hA
        · obtain ⟨c', h6⟩ := hsome _ h5; exact absurd (hI.hp _ c' h6).1 hA
    · exact hI.sp k c h4
  · intro k c h1 h0
    rcases hη' k c h1 with ⟨h3, h4⟩ | ⟨h3, h4⟩
    · exact hnewof k c h3 h4 h0
    · rw [hp.le.same _ (hI.hp k c h4).1]; exact hI.new k c h4 h0
  · refine hI.fr.trans hp.fr ?_
    rintro b o hc ⟨k, j, h3, h1, rfl, _⟩
    rcases htold k j h1 h3 with h4 | ⟨s, h4, h5⟩
    · omega
    · exact ⟨s, h4, h5⟩
end
end Go.X
