/- An executor for the model's code over a heap of its own, whose answers hold in every order that the regions leave open: its data. -/
import Derived.Orders
import Derived.Laws.Sem
set_option linter.unusedVariables false
set_option linter.unusedSimpArgs false
namespace Go.X
/-- A map from numbers, as a tree over the number's digits. -/
inductive T (α : Type) where
  | e : T α
  | n (v : Option α) (l r : T α) : T α
/-- `f m`, the number written out first. -/
noncomputable def num {β : Type} (m : Nat) (f : Nat → β) : β := Nat.rec (motive := fun _ => β) (f (nat_lit 0)) (fun p _ => f (Nat.succ p)) m
theorem num_eq {β : Type} (m : Nat) (f : Nat → β) : num m f = f m := by cases m <;> rfl
namespace T
variable {α β : Type}
noncomputable section
def get (t : T α) : Nat → Option α :=
  T.rec (motive := fun _ => Nat → Option α) (fun _ => none)
    (fun v _ _ gl gr i => Nat.rec (motive := fun _ => Option α) v (fun p _ => Bool.rec (motive := fun _ => Option α) (gr (Nat.div p (nat_lit 2))) (gl (Nat.div p (nat_lit 2))) (Nat.beq (Nat.mod p (nat_lit 2)) (nat_lit 0))) i) t
theorem get_e (i : Nat) : (T.e : T α).get i = none := rfl
theorem get_0 (v : Option α) (l r : T α) : (T.n v l r).get 0 = v := rfl
theorem get_s (v : Option α) (l r : T α) (p : Nat) : (T.n v l r).get (p + 1) = match Nat.beq (p % 2) 0 with | true => l.get (p / 2) | false => r.get (p / 2) := by
  show Bool.rec (motive := fun _ => Option α) (r.get (p / 2)) (l.get (p / 2)) (Nat.beq (p % 2) 0) = _
  cases Nat.beq (p % 2) 0 <;> rfl
def one : Nat → Nat → α → T α
  | 0, _, _ => .e
  | f + 1, i, a => match i with
    | 0 => .n (some a) .e .e
    | p + 1 => match Nat.beq (p % 2) 0 with
      | true => .n none (one f (p / 2) a) .e
      | false => .n none .e (one f (p / 2) a)
def set : T α → Nat → α → T α
  | .e, i, a => one (i + 1) i a
  | .n v l r, i, a => match i with
    | 0 => .n (some a) l r
    | p + 1 => match Nat.beq (p % 2) 0 with
      | true => .n v (set l (p / 2) a) r
      | false => .n v l (set r (p / 2) a)
def oneK (f : Nat) : Nat → α → (T α → β) → β :=
  Nat.rec (motive := fun _ => Nat → α → (T α → β) → β) (fun _ _ k => k .e)
    (fun _ ih i a k => Nat.rec (motive := fun _ => β) (k (.n (some a) .e .e)) (fun p _ => Bool.rec (motive := fun _ => β)
      (ih (Nat.div p (nat_lit 2)) a fun t => k (.n none .e t))
      (ih (Nat.div p (nat_lit 2)) a fun t => k (.n none t .e)) (Nat.beq (Nat.mod p (nat_lit 2)) (nat_lit 0))) i) f
def setK (t : T α) : Nat → α → (T α → β) → β :=
  T.rec (motive := fun _ => Nat → α → (T α → β) → β) (fun i a k => oneK (Nat.succ i) i a k)
    (fun v l r sl sr i a k => Nat.rec (motive := fun _ => β) (k (.n (some a) l r)) (fun p _ => Bool.rec (motive := fun _ => β)
      (sr (Nat.div p (nat_lit 2)) a fun t => k (.n v l t))
      (sl (Nat.div p (nat_lit 2)) a fun t => k (.n v t r)) (Nat.beq (Nat.mod p (nat_lit 2)) (nat_lit 0))) i) t
theorem oneK_eq : ∀ (f i : Nat) (a : α) (k : T α → β), oneK f i a k = k (one f i a)
  | 0, _, _, _ => rfl
  | f + 1, i, a, k => by
    cases i with
    | zero => rfl
    | succ p =>
      simp only [one]
      show Bool.rec (motive := fun _ => β) (oneK f (p / 2) a fun t => k (.n none .e t)) (oneK f (p / 2) a fun t => k (.n none t .e)) (Nat.beq (p % 2) 0) = _
      rw [oneK_eq f, oneK_eq f]
      cases Nat.beq (p % 2) 0 <;> rfl
theorem setK_eq : ∀ (t : T α) (i : Nat) (a : α) (k : T α → β), setK t i a k = k (set t i a)
  | .e, i, a, k => by show oneK (i + 1) i a k = _; rw [oneK_eq]; rfl
  | .n v l r, i, a, k => by
    cases i with
    | zero => rfl
    | succ p =>
      simp only [set]
      show Bool.rec (motive := fun _ => β) (setK r (p / 2) a fun t => k (.n v l t)) (setK l (p / 2) a fun t => k (.n v t r)) (Nat.beq (p % 2) 0) = _
      rw [setK_eq r, setK_eq l]
      cases Nat.beq (p % 2) 0 <;> rfl
theorem par (p : Nat) : (Nat.beq (p % 2) 0 = true ∧ p % 2 = 0) ∨ (Nat.beq (p % 2) 0 = false ∧ p % 2 = 1) := by
  have h : p % 2 = 0 ∨ p % 2 = 1 := by omega
  rcases h with h | h <;> rw [h]
  · exact Or.inl ⟨rfl, rfl⟩
  · exact Or.inr ⟨rfl, rfl⟩
theorem get_one : ∀ (f i : Nat) (a : α) (j : Nat), i < f → (one f i a).get j = if i = j then some a else none := by
  intro f; induction f with
  | zero => intro i a j h; omega
  | succ f ih => intro i a j h; cases i with
    | zero => cases j with
      | zero => rfl
      | succ q => rcases par q with ⟨hq, _⟩ | ⟨hq, _⟩ <;> simp [one, get_0, get_s, hq, get_e]
    | succ p =>
      have hp : p / 2 < f := by omega
      rcases par p with ⟨hb, hb'⟩ | ⟨hb, hb'⟩ <;> cases j with
      | zero => simp [one, hb, get_0]
      | succ q =>
        rcases par q with ⟨hq, hq'⟩ | ⟨hq, hq'⟩ <;> simp only [one, hb, get_s, get_e, hq, ih _ _ _ hp] <;> by_cases h1 : p = q <;> first
          | (subst h1; simp; done)
          | (rw [if_neg (by omega), if_neg (by omega)])
          | (rw [if_neg (by omega)])
          | omega
theorem get_set : ∀ (t : T α) (i : Nat) (a : α) (j : Nat), (set t i a).get j = if i = j then some a else t.get j := by
  intro t; induction t with
  | e => intro i a j; simp only [set, get_e]; exact get_one _ _ _ _ (by omega)
  | n v l r ihl ihr => intro i a j; cases i with
    | zero => cases j with
      | zero => rfl
      | succ q => simp [set, get_s]
    | succ p =>
      rcases par p with ⟨hb, hb'⟩ | ⟨hb, hb'⟩ <;> cases j with
      | zero => simp [set, hb, get_0]
      | succ q =>
        rcases par q with ⟨hq, hq'⟩ | ⟨hq, hq'⟩ <;> simp only [set, hb, get_s, hq, ihl, ihr] <;> by_cases h1 : p = q <;> first
          | (subst h1; simp; done)
          | (rw [if_neg (by omega), if_neg (by omega)])
          | (rw [if_neg (by omega)])
          | omega
end
end T
end Go.X
