/- A region that leaves its order open, from its records. -/
import Derived.Test.YtgkdmkjfcmilgaaGreatDoorXd
set_option linter.unusedVariables false
set_option linter.unusedSimpArgs false
namespace Go.X
def cnt (l : Array Bool) : Nat → Nat
  | 0 => 0
  | n + 1 => cnt l n + if l.getD n false = true then 0 else 1
theorem cnt_set {l : Array Bool} {i : Nat} (hi : i < l.size) (hf : l.getD i false = false) : ∀ n, cnt (l.setIfInBounds i true) n + (if i < n then 1 else 0) = cnt l n
  | 0 => rfl
  | n + 1 => by
    have ih := cnt_set hi hf n
    simp only [cnt]
    by_cases h : i = n
    · subst h
      rw [if_neg (by omega)] at ih
      have : (l.setIfInBounds i true).getD i false = true := by simp [hi]
      rw [this, hf]; simp; omega
    · rw [getD_set_ne false h]
      by_cases h2 : i < n
      · rw [if_pos h2] at ih; rw [if_pos (show i < n + 1 by omega)]; omega
      · rw [if_neg h2] at ih; rw [if_neg (show ¬ i < n + 1 by omega)]; omega
theorem cnt_zero {l : Array Bool} : ∀ n, cnt l n = 0 → ∀ i, i < n → l.getD i false = true
  | 0, _, i, hi => by omega
  | n + 1, h, i, hi => by
    simp only [cnt] at h
    by_cases e : i = n
    · subst e
      by_cases h2 : l.getD i false = true
      · exact h2
      · rw [if_neg h2] at h; omega
    · exact cnt_zero n (by omega) i (by omega)
theorem cnt_all {l : Array Bool} : ∀ n, (∀ i, i < n → l.getD i false = true) → cnt l n = 0
  | 0, _ => rfl
  | n + 1, h => by simp only [cnt]; rw [cnt_all n fun i hi => h i (by omega), if_pos (h n (by omega))]
theorem getD_lt {l : Array Bool} {i : Nat} (h : i < l.size) : l.getD i true = l.getD i false := by simp [h]
section
variable {P : Program} {ops : Array Oper} {Q : Exit → Act → World → Prop} {μ0 : Nat → Nat × Nat} {A0 A : Nat → Prop} {w0 : World} {base N G : Nat} {pre : Nat → Nat → Bool} {τ : Nat → Option V} {η : K → Option Cell} {tch : List Nat}
variable {recs : List Rec2}
theorem any_sound (hg : Good P ops G N base pre τ η tch recs) (hn : recs.length = ops.size) (hap : ∀ i k oi ok, k < i → ops[i]? = some oi → ops[k]? = some ok → pre i k = false → oi.apart ops ok = true)
    (hG : ∀ g, g < G → A0 g ∧ μ0 g = (g, 0)) (hA : ∀ r ∈ recs, ∀ id, r.lo ≤ id → id < r.hi → ¬ A id)
    (hback : ∀ (i : Nat) (o : Oper), ops[i]? = some o → ∀ e ∈ o.after, Region.binds .any e = true → e.on < i)
    (hpre : ∀ i k, pre i k = true → ∃ o, ops[i]? = some o ∧ ∃ e ∈ o.after, Region.binds .any e = true ∧ (k = e.on ∨ pre e.on k = true))
    (hQ : ∀ a w μ, Inv μ0 A0 w0 base N tch (sT τ all recs) (sH η all recs) (sA A all recs) μ a w → Q .normal a w) :
    ∀ (fuel : Nat) (listed : Array Bool) (a : Act) (w : World) (μ : Nat → Nat × Nat), listed.size = ops.size → cnt listed ops.size = fuel →
      (∀ (j : Nat) (o : Oper), listed.getD j false = true → ops[j]? = some o → ∀ e ∈ o.after, Region.binds .any e = true → listed.getD e.on false = true) →
      Inv μ0 A0 w0 base N tch (sT τ (fun i => listed.getD i false) recs) (sH η (fun i => listed.getD i false) recs) (sA A (fun i => listed.getD i false) recs) μ a w →
      wpAny P .any ops Q fuel listed a w := by
  -- what is behind a listed one is listed
  have hclose : ∀ (listed : Array Bool), (∀ (j : Nat) (o : Oper), listed.getD j false = true → ops[j]? = some o → ∀ e ∈ o.after, Region.binds .any e = true → listed.getD e.on false = true) →
      ∀ n j, j < n → listed.getD j false = true → ∀ k, pre j k = true → listed.getD k false = true := by
    intro listed hcl n
    induction n with
    | zero => intro j hj; omega
    | succ n ih =>
      intro j hj hl k hk
      obtain ⟨o, ho, e, he, hb, h⟩ := hpre j k hk
      have h1 := hcl j o hl ho e he hb
      rcases h with rfl | h
      · exact h1
      · exact ih e.on (by have := hback j o ho e he hb; omega) h1 k h
  have hdone : ∀ (listed : Array Bool), listed.size = ops.size → Region.ready .any ops listed = [] → ∀ n i, i < n → i < ops.size → listed.getD i false = true := by
    intro listed hs hr n
    induction n with
    | zero => intro i hi; omega
    | succ n ih =>
      intro i hi hio
      cases hl : listed.getD i false with
      | true => rfl
      | false =>
        exfalso
        have hm : i ∈ Region.ready .any ops listed := mem_ready.2 ⟨by rw [getD_lt (by omega)]; exact hl, ops[i], by simp [hio], fun e he hb => by
          have hlt := hback i ops[i] (by simp [hio]) e he hb
          exact ih e.on (by omega) (by omega)⟩
        rw [hr] at hm; cases hm
  have hfin : ∀ (listed : Array Bool) (a : Act) (w : World) (μ : Nat → Nat × Nat), (∀ i, i < ops.size → listed.getD i false = true) →
      Inv μ0 A0 w0 base N tch (sT τ (fun i => listed.getD i false) recs) (sH η (fun i => listed.getD i false) recs) (sA A (fun i => listed.getD i false) recs) μ a w → Q .normal a w := by
    intro listed a w μ hall hI
    have e1 : ∀ r ∈ recs, (fun i => listed.getD i false) r.i = all r.i := fun r hr => hall r.i (by rw [← hn]; exact hg.lt r hr)
    rw [sT_congr τ recs e1, sH_congr η recs e1] at hI
    have e2 : sA A (fun i => listed.getD i false) recs = sA A all recs := by
      funext id; apply propext
      constructor
      · rintro (h | ⟨r, h1, _, h3⟩)
        · exact Or.inl h
        · exact Or.inr ⟨r, h1, rfl, h3⟩
      · rintro (h | ⟨r, h1, _, h3⟩)
        · exact Or.inl h
        · exact Or.inr ⟨r, h1, e1 r h1, h3⟩
    rw [e2] at hI
    exact hQ a w μ hI
  intro fuel
  induction fuel with
  | zero =>
    intro listed a w μ hs hc hcl hI
    have hall := cnt_zero ops.size hc
    refine ⟨?_, hfin listed a w μ hall hI⟩
    cases hr : Region.ready .any ops listed with
    | nil => rfl
    | cons j js =>
      have hj : j ∈ Region.ready .any ops listed := by rw [hr]; simp
      obtain ⟨h1, o, h2, _⟩ := mem_ready.1 hj
      have hlt : j < ops.size := (Array.getElem?_eq_some_iff.1 h2).1
      rw [getD_lt (by omega), hall j hlt] at h1; cases h1
  | succ fuel ih =>
    intro listed a w μ hs hc hcl hI
    refine ⟨fun hr => hfin listed a w μ (fun i hi => hdone listed hs hr (i + 1) i (by omega) hi) hI, fun i hi => ?_⟩
    obtain ⟨h1, o, h2, h3⟩ := mem_ready.1 hi
    have hlt : i < ops.size := (Array.getElem?_eq_some_iff.1 h2).1
    have hli : listed.getD i false = false := by rw [← getD_lt (by omega)]; exact h1
    refine Good.step hg hap hG hA (D := fun i => listed.getD i false) (i := i) (by omega) hli ?_ (fun j k _ hj hk => hclose listed hcl (j + 1) j (by omega) hj k hk) hI ?_
    · intro k hk
      obtain ⟨o', ho', e, he, hb, h⟩ := hpre i k hk
      rw [h2] at ho'
      obtain rfl := Option.some.inj ho'
      have := h3 e he hb
      rcases h with rfl | h
      · exact this
      · exact hclose listed hcl (e.on + 1) e.on (by omega) this k h
    · intro a' w' μ' hI'
      have hD : D1 (fun i => listed.getD i false) i = fun j => (listed.setIfInBounds i true).getD j false := by
        funext j
        simp only [D1]
        by_cases e : i = j
        · subst e; simp [hs, hlt]
        · rw [getD_set_ne false e]
          have : (j == i) = false := by simp; exact fun h => e h.symm
          rw [this, Bool.false_or]
      rw [hD] at hI'
      refine ih (listed.setIfInBounds i true) a' w' μ' (by simp [hs]) ?_ ?_ hI'
      · have := cnt_set (l := listed) (i := i) (by omega) hli ops.size
        rw [if_pos hlt] at this; omega
      · intro j o' hj ho' e he hb
        by_cases e1 : i = j
        · subst e1
          rw [h2] at ho'
          obtain rfl := Option.some.inj ho'
          exact getD_set_true (h3 e he hb)
        · rw [getD_set_ne false e1] at hj
          exact getD_set_true (hcl j o' hj ho' e he hb)
/-- Only the streams' count has moved. -/
theorem Inv.drew {τ : Nat → Option V} {η : K → Option Cell} {A : Nat → Prop} {μ : Nat → Nat × Nat} {a : Act} {w : World} (h : Inv μ0 A0 w0 base N tch τ η A μ a w) (n : Nat) :
    Inv μ0 A0 w0 base N tch τ η A μ a { w with drawn := n } := by
  have hle : Le μ μ A A w { w with drawn := n } := ⟨fun _ h => h, fun _ _ => rfl, fun _ => Nat.le_refl _⟩
  exact ⟨h.defers, h.size, h.old, fun t v ht => VR.up hle _ _ (h.tm t v ht), fun k c h1 => ⟨(h.hp k c h1).1, CR.up hle rfl rfl (fun _ => rfl) c (fun _ _ _ => rfl) (h.hp k c h1).2⟩, h.inj, h.sp, h.new,
    ⟨h.fr.os, h.fr.tape, h.fr.output, h.fr.size, h.fr.cell, h.fr.froz, h.fr.obj, h.fr.bs⟩⟩
theorem region_sound (hm : P.follows .mixedOrders = true) (hg : Good P ops G N base pre τ η tch recs) (hn : recs.length = ops.size)
    (hap : ∀ i k oi ok, k < i → ops[i]? = some oi → ops[k]? = some ok → pre i k = false → oi.apart ops ok = true)
    (hG : ∀ g, g < G → A0 g ∧ μ0 g = (g, 0)) (hA : ∀ r ∈ recs, ∀ id, r.lo ≤ id → id < r.hi → ¬ A id)
    (hback : ∀ (i : Nat) (o : Oper), ops[i]? = some o → ∀ e ∈ o.after, Region.binds .any e = true → e.on < i)
    (hpre : ∀ i k, pre i k = true → ∃ o, ops[i]? = some o ∧ ∃ e ∈ o.after, Region.binds .any e = true ∧ (k = e.on ∨ pre e.on k = true))
    (hQ : ∀ a w μ, Inv μ0 A0 w0 base N tch (sT τ all recs) (sH η all recs) (sA A all recs) μ a w → Q .normal a w)
    {id : Nat} {a : Act} {w : World} {μ : Nat → Nat × Nat} (hI : Inv μ0 A0 w0 base N tch τ η A μ a w) : (Code.region id ops true).wp P Q a w := by
  have h0 : (fun i => (Array.replicate ops.size false).getD i false) = none' := by
    funext i; simp [none', Array.getElem?_replicate]; split <;> rfl
  refine wp_region_any hm (any_sound hg hn hap hG hA hback hpre hQ ops.size _ a _ μ (by simp) ?_ ?_ ?_)
  · have : ∀ n, cnt (Array.replicate ops.size false) n = n := by
      intro n
      induction n with
      | zero => rfl
      | succ n ih =>
        have := congrFun h0 n
        simp only [none'] at this
        simp only [cnt, ih]; rw [if_neg (by rw [this]; simp)]
    exact this _
  · intro j o hj
    have := congrFun h0 j
    simp only [none'] at this
    rw [this] at hj; cases hj
  · rw [h0, sT_none, sH_none]
    have : sA A none' recs = A := by
      funext id; apply propext
      exact ⟨fun h => h.elim (fun h => h) (fun ⟨r, _, h, _⟩ => absurd h (by simp [none'])), Or.inl⟩
    rw [this]
    exact hI.drew _
end
end Go.X
