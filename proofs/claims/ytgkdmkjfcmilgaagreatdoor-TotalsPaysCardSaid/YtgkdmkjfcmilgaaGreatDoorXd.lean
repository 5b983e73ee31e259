/- A region that leaves its order open: whatever order is drawn, the state is the one of the executor's own order. -/
import Derived.Test.YtgkdmkjfcmilgaaGreatDoorXc
set_option linter.unusedVariables false
set_option linter.unusedSimpArgs false
namespace Go.X
/-- A record of an operation: what it yielded, which blocks it made or turned, and which it could look at. -/
structure Rec2 extends Rec where
  acc : Nat → Option Blk
noncomputable def Rec2.see (r : Rec2) : K → Option Cell := cof r.acc
noncomputable def Rec2.val (r : Rec2) : K → Option Cell := cof r.h.get
noncomputable instance (r : Rec) (k : K) : Decidable (r.key k) := Classical.propDecidable _
def sT (τ : Nat → Option V) (D : Nat → Bool) : List Rec2 → Nat → Option V
  | [], t => τ t
  | r :: rs, t => if D r.i = true ∧ r.dst = some t then some r.v else sT τ D rs t
noncomputable def sH (η : K → Option Cell) (D : Nat → Bool) : List Rec2 → K → Option Cell
  | [], k => η k
  | r :: rs, k => if D r.i = true ∧ r.key k then r.val k else sH η D rs k
def sA (A : Nat → Prop) (D : Nat → Bool) (rs : List Rec2) (id : Nat) : Prop := A id ∨ ∃ r ∈ rs, D r.i = true ∧ r.lo ≤ id ∧ id < r.hi
def all : Nat → Bool := fun _ => true
def none' : Nat → Bool := fun _ => false
theorem sT_none (τ : Nat → Option V) : ∀ rs, sT τ none' rs = τ
  | [] => rfl
  | r :: rs => by funext t; simp [sT, none', sT_none τ rs]
theorem sH_none (η : K → Option Cell) : ∀ rs, sH η none' rs = η
  | [] => rfl
  | r :: rs => by funext t; simp [sH, none', sH_none η rs]
theorem sT_congr (τ : Nat → Option V) {D E : Nat → Bool} : ∀ rs, (∀ r ∈ rs, D r.i = E r.i) → sT τ D rs = sT τ E rs
  | [], _ => rfl
  | r :: rs, h => by funext t; simp only [sT]; rw [h r (by simp), sT_congr τ rs fun x hx => h x (by simp [hx])]
theorem sH_congr (η : K → Option Cell) {D E : Nat → Bool} : ∀ rs, (∀ r ∈ rs, D r.i = E r.i) → sH η D rs = sH η E rs
  | [], _ => rfl
  | r :: rs, h => by funext t; simp only [sH]; rw [h r (by simp), sH_congr η rs fun x hx => h x (by simp [hx])]
def D1 (D : Nat → Bool) (i : Nat) : Nat → Bool := fun j => j == i || D j
section
variable {D : Nat → Bool} {r : Rec2} {rs : List Rec2}
theorem sT_old (τ : Nat → Option V) (t : Nat) : ∀ rs : List Rec2, (∀ k ∈ rs, D k.i = false → k.dst ≠ some t) → sT τ D rs t = sT τ all rs t
  | [], _ => rfl
  | k :: rs, h2 => by
    have ih := sT_old τ t rs fun x hx => h2 x (by simp [hx])
    simp only [sT, ih, all, true_and]
    by_cases hk : D k.i = true
    · simp [hk]
    · rw [if_neg (fun h => hk h.1), if_neg (h2 k (by simp) (by simpa using hk))]
theorem sH_old (η : K → Option Cell) (t : K) : ∀ rs : List Rec2, (∀ k ∈ rs, D k.i = false → ¬ k.key t) → sH η D rs t = sH η all rs t
  | [], _ => rfl
  | k :: rs, h2 => by
    have ih := sH_old η t rs fun x hx => h2 x (by simp [hx])
    simp only [sH, ih, all, true_and]
    by_cases hk : D k.i = true
    · simp [hk]
    · rw [if_neg (fun h => hk h.1), if_neg (h2 k (by simp) (by simpa using hk))]
theorem sT_look (τ : Nat → Option V) (t : Nat) (hD : D r.i = false) : ∀ newer : List Rec2, (∀ k ∈ newer, D k.i = true → k.dst ≠ some t) → (∀ k ∈ rs, D k.i = false → k.dst ≠ some t) →
    sT τ D (newer ++ r :: rs) t = sT τ all rs t
  | [], _, h2 => by
    simp only [List.nil_append, sT, hD, Bool.false_eq_true, false_and, if_false]
    exact sT_old τ t rs h2
  | k :: newer, h1, h2 => by
    simp only [List.cons_append, sT]
    rw [if_neg (fun h => h1 k (by simp) h.1 h.2)]
    exact sT_look τ t hD newer (fun x hx => h1 x (by simp [hx])) h2
theorem sH_look (η : K → Option Cell) (t : K) (hD : D r.i = false) : ∀ newer : List Rec2, (∀ k ∈ newer, D k.i = true → ¬ k.key t) → (∀ k ∈ rs, D k.i = false → ¬ k.key t) →
    sH η D (newer ++ r :: rs) t = sH η all rs t
  | [], _, h2 => by
    simp only [List.nil_append, sH, hD, Bool.false_eq_true, false_and, if_false]
    exact sH_old η t rs h2
  | k :: newer, h1, h2 => by
    simp only [List.cons_append, sH]
    rw [if_neg (fun h => h1 k (by simp) h.1 h.2)]
    exact sH_look η t hD newer (fun x hx => h1 x (by simp [hx])) h2
theorem sT_ins (τ : Nat → Option V) (t : Nat) (hD : D r.i = false) (hrs : ∀ k ∈ rs, k.i ≠ r.i) : ∀ newer : List Rec2, (∀ k ∈ newer, k.i ≠ r.i) →
    (∀ k ∈ newer, D k.i = true → r.dst = some t → k.dst ≠ some t) →
    sT τ (D1 D r.i) (newer ++ r :: rs) t = if r.dst = some t then some r.v else sT τ D (newer ++ r :: rs) t
  | [], _, _ => by
    simp only [List.nil_append, sT, hD, D1, beq_self_eq_true, Bool.true_or, true_and, Bool.false_eq_true, false_and, if_false]
    rw [sT_congr τ (D := D1 D r.i) (E := D) rs (fun k hk => by simp [D1, hrs k hk])]
  | k :: newer, h0, h1 => by
    simp only [List.cons_append, sT]
    rw [sT_ins τ t hD hrs newer (fun x hx => h0 x (by simp [hx])) (fun x hx => h1 x (by simp [hx]))]
    have hk : D1 D r.i k.i = D k.i := by simp [D1, h0 k (by simp)]
    rw [hk]
    by_cases h2 : D k.i = true ∧ k.dst = some t
    · rw [if_pos h2, if_pos h2]
      by_cases h3 : r.dst = some t
      · exact absurd h2.2 (h1 k (by simp) h2.1 h3)
      · rw [if_neg h3]
    · rw [if_neg h2, if_neg h2]
theorem sH_ins (η : K → Option Cell) (t : K) (hD : D r.i = false) (hrs : ∀ k ∈ rs, k.i ≠ r.i) : ∀ newer : List Rec2, (∀ k ∈ newer, k.i ≠ r.i) →
    (∀ k ∈ newer, D k.i = true → r.key t → ¬ k.key t) →
    sH η (D1 D r.i) (newer ++ r :: rs) t = if r.key t then r.val t else sH η D (newer ++ r :: rs) t
  | [], _, _ => by
    simp only [List.nil_append, sH, hD, D1, beq_self_eq_true, Bool.true_or, true_and, Bool.false_eq_true, false_and, if_false]
    rw [sH_congr η (D := D1 D r.i) (E := D) rs (fun k hk => by simp [D1, hrs k hk])]
  | k :: newer, h0, h1 => by
    simp only [List.cons_append, sH]
    rw [sH_ins η t hD hrs newer (fun x hx => h0 x (by simp [hx])) (fun x hx => h1 x (by simp [hx]))]
    have hk : D1 D r.i k.i = D k.i := by simp [D1, h0 k (by simp)]
    rw [hk]
    by_cases h2 : D k.i = true ∧ k.key t
    · rw [if_pos h2, if_pos h2]
      by_cases h3 : r.key t
      · exact absurd h2.2 (h1 k (by simp) h2.1 h3)
      · rw [if_neg h3]
    · rw [if_neg h2, if_neg h2]
end
/-- What the executor has seen to when it added record `r` to the older ones `rs`. -/
structure Good1 (P : Program) (ops : Array Oper) (G N base : Nat) (pre : Nat → Nat → Bool) (τ : Nat → Option V) (η : K → Option Cell) (tch : List Nat) (r : Rec2) (rs : List Rec2) : Prop where
  i : r.i = rs.length
  op : ∃ o, ops[r.i]? = some o ∧ r.dst = o.dst ∧ (∀ d, o.dst = some d → d < N) ∧ OpSound P ops N r.i o G (sT τ all rs) r.see r.key r.val r.v r.lo r.hi
  vis : ∀ k c, r.see k = some c → sH η all rs k = some c ∧ k.1 < r.lo ∧ ∀ q ∈ rs, pre r.i q.i = false → ¬ q.key k
  key : ∀ k, r.old k → r.see k ≠ none ∨ ((∃ j, r.see (k.1, j) ≠ none) ∧ (∀ j, r.old (k.1, j)) ∧ ∀ q ∈ rs, pre r.i q.i = false → ∀ j, ¬ q.key (k.1, j))
  late : ∀ q ∈ rs, pre r.i q.i = false → ∀ k, r.old k → q.see k = none
  rng : base ≤ r.lo ∧ r.lo ≤ r.hi ∧ ∀ q ∈ rs, q.hi ≤ r.lo
  tch : ∀ k, r.old k → k.1 < base → k.1 ∈ tch
def Good (P : Program) (ops : Array Oper) (G N base : Nat) (pre : Nat → Nat → Bool) (τ : Nat → Option V) (η : K → Option Cell) (tch : List Nat) : List Rec2 → Prop
  | [] => True
  | r :: rs => Good1 P ops G N base pre τ η tch r rs ∧ Good P ops G N base pre τ η tch rs
section
variable {P : Program} {ops : Array Oper} {G N base : Nat} {pre : Nat → Nat → Bool} {τ : Nat → Option V} {η : K → Option Cell} {tch : List Nat}
theorem Good.lt : ∀ {rs : List Rec2}, Good P ops G N base pre τ η tch rs → ∀ k ∈ rs, k.i < rs.length
  | [], _, _, h => by simp at h
  | r :: rs, hg, k, hk => by
    rcases List.mem_cons.1 hk with rfl | hk
    · simp [hg.1.i]
    · have := Good.lt hg.2 k hk; simp; omega
/-- Where a record stands. -/
theorem Good.at : ∀ {rs : List Rec2}, Good P ops G N base pre τ η tch rs → ∀ i, i < rs.length →
    ∃ newer r older, rs = newer ++ r :: older ∧ r.i = i ∧ Good1 P ops G N base pre τ η tch r older ∧ (∀ k ∈ newer, i < k.i) ∧ (∀ k ∈ older, k.i < i) ∧
      (∀ k ∈ newer, ∃ o ks, Good1 P ops G N base pre τ η tch k ks ∧ r ∈ ks ∧ o = k)
  | [], _, i, h => by simp at h
  | r :: rs, hg, i, hi => by
    by_cases h : i = rs.length
    · subst h
      exact ⟨[], r, rs, rfl, hg.1.i, hg.1, by simp, Good.lt hg.2, by simp⟩
    · obtain ⟨newer, r', older, h1, h2, h3, h4, h5, h6⟩ := Good.at hg.2 i (by simp at hi; omega)
      refine ⟨r :: newer, r', older, by rw [h1]; rfl, h2, h3, ?_, h5, ?_⟩
      · intro k hk
        rcases List.mem_cons.1 hk with rfl | hk
        · rw [hg.1.i]; simp at hi; omega
        · exact h4 k hk
      · intro k hk
        rcases List.mem_cons.1 hk with rfl | hk
        · exact ⟨k, rs, hg.1, by rw [h1]; simp, rfl⟩
        · exact h6 k hk
/-- A later operation that is not ordered with an earlier one turns no cell of the earlier one's. -/
theorem Good1.disj {q r : Rec2} {ks older : List Rec2} (hk : Good1 P ops G N base pre τ η tch q ks) (hr : Good1 P ops G N base pre τ η tch r older) (hm : r ∈ ks) (hp : pre q.i r.i = false) (k : K)
    (h1 : q.key k) : ¬ r.key k := by
  intro h2
  have hlow : ∀ j, r.see (k.1, j) ≠ none → k.1 < r.lo := by
    intro j h
    cases e : r.see (k.1, j) with
    | none => exact absurd e h
    | some c => exact (hr.vis _ c e).2.1
  have hh := hk.rng.2.2 r hm
  have h3 := hr.rng.2.1
  rcases h1 with ⟨h1, h1'⟩ | h1
  · rcases h2 with ⟨h2, h2'⟩ | h2
    · omega
    · rcases hr.key k h2 with h4 | ⟨⟨j, h4⟩, _⟩
      · have := hlow k.2 h4; omega
      · have := hlow j h4; omega
  · rcases hk.key k h1 with h4 | ⟨_, _, h4⟩
    · cases e : q.see k with
      | none => exact h4 e
      | some c => exact (hk.vis _ c e).2.2 r hm hp h2
    · exact h4 r hm hp k.2 h2
/-- What an operation may look at a later one that is not ordered with it leaves alone. -/
theorem Good1.calm {q r : Rec2} {ks older : List Rec2} (hk : Good1 P ops G N base pre τ η tch q ks) (hr : Good1 P ops G N base pre τ η tch r older) (hm : r ∈ ks) (hp : pre q.i r.i = false) (k : K) (c : Cell)
    (h3 : r.see k = some c) : ¬ q.key k := by
  rintro (⟨h1, _⟩ | h1)
  · have := (hr.vis k c h3).2.1
    have := hr.rng.2.1
    have := hk.rng.2.2 r hm
    omega
  · have := hk.late r hm hp k h1
    rw [this] at h3; cases h3
end
section
variable {P : Program} {ops : Array Oper} {Q : Exit → Act → World → Prop} {μ0 : Nat → Nat × Nat} {A0 A : Nat → Prop} {w0 : World} {base N G : Nat} {pre : Nat → Nat → Bool} {τ : Nat → Option V} {η : K → Option Cell} {tch : List Nat}
variable {recs : List Rec2}
/-- One operation out of any order that keeps to what comes before it. -/
theorem Good.step (hg : Good P ops G N base pre τ η tch recs) (hap : ∀ i k oi ok, k < i → ops[i]? = some oi → ops[k]? = some ok → pre i k = false → oi.apart ops ok = true)
    (hG : ∀ g, g < G → A0 g ∧ μ0 g = (g, 0)) (hA : ∀ r ∈ recs, ∀ id, r.lo ≤ id → id < r.hi → ¬ A id)
    {D : Nat → Bool} {i : Nat} (hi : i < recs.length) (hDi : D i = false) (hpre : ∀ k, pre i k = true → D k = true) (hcl : ∀ j k, j < recs.length → D j = true → pre j k = true → D k = true)
    {K' : Act → World → Prop} {μ : Nat → Nat × Nat} {a : Act} {w : World} (hI : Inv μ0 A0 w0 base N tch (sT τ D recs) (sH η D recs) (sA A D recs) μ a w)
    (hK : ∀ a' w' μ', Inv μ0 A0 w0 base N tch (sT τ (D1 D i) recs) (sH η (D1 D i) recs) (sA A (D1 D i) recs) μ' a' w' → K' a' w') :
    wpOp P ops Q i K' a w := by
  obtain ⟨newer, r, older, h1, h2, h3, h4, h5, h6⟩ := hg.at i hi
  subst h2
  obtain ⟨o, ho, hdst, hdN, hs⟩ := h3.op
  have hDr : D r.i = false := hDi
  have hnlt : ∀ k ∈ newer, k.i < recs.length := fun k hk => hg.lt k (by rw [h1]; simp [hk])
  -- a newer one that is done is not behind this one
  have hnp : ∀ k ∈ newer, D k.i = true → pre k.i r.i = false := by
    intro k hk hD
    cases hp : pre k.i r.i with
    | false => rfl
    | true => have := hcl k.i r.i (hnlt k hk) hD hp; rw [hDr] at this; cases this
  have hop : ∀ k ∈ older, D k.i = false → pre r.i k.i = false := by
    intro k hk hD
    cases hp : pre r.i k.i with
    | false => rfl
    | true => have := hpre k.i hp; rw [hD] at this; cases this
  have hopOf : ∀ k ∈ recs, ∃ ok, ops[k.i]? = some ok ∧ k.dst = ok.dst := by
    intro k hk
    obtain ⟨n', k', o', g1, g2, g3, _⟩ := hg.at k.i (hg.lt k hk)
    obtain ⟨ok, e1, e2, _⟩ := g3.op
    -- the record at that place is this one
    have : k' = k := by
      have inj : ∀ {rs : List Rec2}, Good P ops G N base pre τ η tch rs → ∀ x ∈ rs, ∀ y ∈ rs, x.i = y.i → x = y := by
        intro rs
        induction rs with
        | nil => intro _ x hx; simp at hx
        | cons z zs ih =>
          intro hgz x hx y hy hxy
          rcases List.mem_cons.1 hx with ex | mx <;> rcases List.mem_cons.1 hy with ey | my
          · rw [ex, ey]
          · have := Good.lt hgz.2 y my; rw [← hxy, ex, hgz.1.i] at this; omega
          · have := Good.lt hgz.2 x mx; rw [hxy, ey, hgz.1.i] at this; omega
          · exact ih hgz.2 x mx y my hxy
      exact inj hg k' (by rw [g1]; simp) k hk g2
    subst this
    exact ⟨ok, e1, e2⟩
  have hnap : ∀ k ∈ newer, D k.i = true → ∀ t, k.dst = some t → t ∉ o.looksAt ops ∧ o.dst ≠ some t := by
    intro k hk hD t ht
    obtain ⟨ok, e1, e2⟩ := hopOf k (by rw [h1]; simp [hk])
    obtain ⟨p1, p2, p3⟩ := Oper.apart_spec (hap k.i r.i ok o (h4 k hk) e1 ho (hnp k hk hD))
    exact ⟨p1 t (e2 ▸ ht), p2 t (e2 ▸ ht)⟩
  have hoap : ∀ k ∈ older, D k.i = false → ∀ t, k.dst = some t → t ∉ o.looksAt ops := by
    intro k hk hD t ht
    obtain ⟨ok, e1, e2⟩ := hopOf k (by rw [h1]; simp [hk])
    obtain ⟨p1, p2, p3⟩ := Oper.apart_spec (hap r.i k.i o ok (h5 k hk) ho e1 (hop k hk hD))
    exact p3 t (e2 ▸ ht)
  have hne : ∀ k ∈ newer, k.i ≠ r.i := fun k hk e => by have := h4 k hk; omega
  have hoe : ∀ k ∈ older, k.i ≠ r.i := fun k hk e => by have := h5 k hk; omega
  have hdis : ∀ q ∈ newer, D q.i = true → ∀ k, r.key k → ¬ q.key k := by
    intro q hq hD k hr hkk
    obtain ⟨_, ks, g1, g2, rfl⟩ := h6 q hq
    exact g1.disj h3 g2 (hnp _ hq hD) k hkk hr
  refine OpSound.step (τ' := sT τ (D1 D r.i) recs) (η' := sH η (D1 D r.i) recs) (A' := sA A (D1 D r.i) recs) hs hdN ?_ h3.rng.1 hG hI ?_ ?_ ?_ ?_ ?_ ?_ ?_ hK
  · rintro k (h | h)
    · exact Or.inl h
    · rcases h3.key k h with h | ⟨h, h', _⟩
      · exact Or.inr (Or.inl h)
      · exact Or.inr (Or.inr ⟨h, fun j => Or.inr (h' j)⟩)
  · intro t v ht hv
    rw [h1, sT_look τ t hDr newer (fun k hk hD e => (hnap k hk hD t e).1 ht) (fun k hk hD e => hoap k hk hD t e ht)]
    exact hv
  · intro k c hb
    obtain ⟨v1, v2, v3⟩ := h3.vis k c hb
    rw [h1, sH_look η k hDr newer ?_ (fun q hq hD => v3 q hq (hop q hq hD))]
    · exact v1
    · intro q hq hD
      obtain ⟨_, ks, g1, g2, rfl⟩ := h6 q hq
      exact g1.calm h3 g2 (hnp _ hq hD) k c hb
  · rintro id e1 e2 (e3 | ⟨k, e3, e4, e5, e6⟩)
    · exact hA r (by rw [h1]; simp) id e1 e2 e3
    · rw [h1] at e3
      rcases List.mem_append.1 e3 with e3 | e3
      · obtain ⟨_, ks, g1, g2, rfl⟩ := h6 k e3
        have := g1.rng.2.2 r g2
        omega
      · rcases List.mem_cons.1 e3 with rfl | e3
        · rw [hDr] at e4; cases e4
        · have := h3.rng.2.2 k e3
          omega
  · intro k j hb hk ht
    rcases hk with ⟨e1, e2⟩ | hk
    · have := h3.rng.1; omega
    · exact h3.tch k hk ht
  · intro t u hu
    rw [h1, sT_ins τ t hDr hoe newer hne (fun k hk hD e e' => (hnap k hk hD t e').2 (hdst ▸ e)), hdst, ← h1] at hu
    by_cases e : o.dst = some t
    · rw [if_pos e] at hu; exact Or.inl ⟨e, (Option.some.inj hu).symm⟩
    · rw [if_neg e] at hu; exact Or.inr ⟨e, hu⟩
  · intro k c hb
    rw [h1, sH_ins η k hDr hoe newer hne (fun q hq hD e => hdis q hq hD k e), ← h1] at hb
    by_cases e : r.key k
    · rw [if_pos e] at hb; exact Or.inl ⟨e, hb⟩
    · rw [if_neg e] at hb; exact Or.inr ⟨e, hb⟩
  · intro id
    constructor
    · rintro (e | ⟨k, e1, e2, e3⟩)
      · exact Or.inl (Or.inl e)
      · simp only [D1, Bool.or_eq_true, beq_iff_eq] at e2
        rcases e2 with e2 | e2
        · right
          have : k = r := by
            rw [h1] at e1
            rcases List.mem_append.1 e1 with e1 | e1
            · exact absurd e2 (hne k e1)
            · rcases List.mem_cons.1 e1 with rfl | e1
              · rfl
              · exact absurd e2 (hoe k e1)
          subst this; exact e3
        · exact Or.inl (Or.inr ⟨k, e1, e2, e3⟩)
    · rintro ((e | ⟨k, e1, e2, e3⟩) | e)
      · exact Or.inl e
      · exact Or.inr ⟨k, e1, by simp [D1, e2], e3⟩
      · exact Or.inr ⟨r, by rw [h1]; simp, by simp [D1], e⟩
end
end Go.X
