/- A region that leaves its order open: what the executor keeps while it goes through. -/
import Derived.Test.YtgkdmkjfcmilgaaGreatDoorXv
set_option linter.unusedVariables false
set_option linter.unusedSimpArgs false
namespace Go.X
section
variable {P : Program} {ops : Array Oper} {G N base : Nat}
/-! Small functions. -/
theorem unord_mem {m : Nat} {r : Rec2} : ∀ {l : List Rec2}, r ∈ unord m l ↔ r ∈ l ∧ tb m r.i = false
  | [] => by simp [unord]
  | q :: l => by
    simp only [unord, ib_eq]
    split
    · rename_i h
      rw [unord_mem]
      constructor
      · rintro ⟨h1, h2⟩; exact ⟨by simp [h1], h2⟩
      · rintro ⟨h1, h2⟩
        rcases List.mem_cons.1 h1 with rfl | h1
        · rw [h] at h2; cases h2
        · exact ⟨h1, h2⟩
    · rename_i h
      simp only [List.mem_cons, unord_mem]
      constructor
      · rintro (rfl | ⟨h1, h2⟩)
        · exact ⟨Or.inl rfl, by simpa using h⟩
        · exact ⟨Or.inr h1, h2⟩
      · rintro ⟨rfl | h1, h2⟩
        · exact Or.inl rfl
        · exact Or.inr ⟨h1, h2⟩
theorem newB_eq (id : Nat) (r : Rec2) : newB id r = true ↔ r.lo ≤ id ∧ id < r.hi := by
  unfold newB
  rw [ib_eq, nble, nblt]
  by_cases h : r.lo ≤ id <;> simp [h]
theorem tchB_eq (id : Nat) : ∀ l : List Tch, tchB id l = true ↔ ∃ e ∈ l, e.1 = id
  | [] => by simp [tchB]
  | e :: l => by
    simp only [tchB, ib_eq, nbeq, decide_eq_true_eq]
    by_cases h : e.1 = id
    · simp [h]
    · simp [h, tchB_eq id l]
theorem hidW_false {id : Nat} : ∀ {U : List Rec2}, hidW id U = false → ∀ q ∈ U, ∀ j, ¬ q.key (id, j)
  | [], _, q, hq, _ => by simp at hq
  | r :: U, h, q, hq, j => by
    simp only [hidW, ib_eq] at h
    by_cases h1 : newB id r = true
    · rw [if_pos h1] at h; cases h
    · rw [if_neg h1] at h
      by_cases h2 : tchB id r.tch = true
      · rw [if_pos h2] at h; cases h
      · rw [if_neg h2] at h
        rcases List.mem_cons.1 hq with rfl | hq
        · rintro (h3 | ⟨e, h3, h4, _⟩)
          · exact h1 ((newB_eq _ _).2 h3)
          · exact h2 ((tchB_eq _ _).2 ⟨e, h3, h4⟩)
        · exact hidW_false h q hq j
theorem meets_false {a b : Nat} {g : Option (Nat × Nat)} (h : meets a b g = false) : ∃ r, g = some r ∧ (b ≤ r.1 ∨ r.2 ≤ a) := by
  cases g with
  | none => cases h
  | some r =>
    have h' : ib (Nat.ble b r.1) false (ib (Nat.ble r.2 a) false true) = false := h
    rw [ib_eq, ib_eq, nble, nble] at h'
    refine ⟨r, rfl, ?_⟩
    by_cases h1 : b ≤ r.1
    · exact Or.inl h1
    · by_cases h2 : r.2 ≤ a
      · exact Or.inr h2
      · simp [h1, h2] at h'
theorem tchC_false {id a b : Nat} : ∀ {l : List Tch}, tchC id a b l = false → ∀ e ∈ l, e.1 = id → ∃ r, e.2 = some r ∧ (b ≤ r.1 ∨ r.2 ≤ a)
  | [], _, e, he, _ => by simp at he
  | x :: l, h, e, he, h1 => by
    simp only [tchC, ib_eq, nbeq, decide_eq_true_eq] at h
    rcases List.mem_cons.1 he with rfl | he
    · rw [if_pos h1] at h
      by_cases h2 : meets a b e.2 = true
      · rw [if_pos h2] at h; cases h
      · exact meets_false (by simpa using h2)
    · by_cases h2 : x.1 = id
      · rw [if_pos h2] at h
        by_cases h3 : meets a b x.2 = true
        · rw [if_pos h3] at h; cases h
        · rw [if_neg h3] at h; exact tchC_false h e he h1
      · rw [if_neg h2] at h; exact tchC_false h e he h1
theorem hidC_false {id a b : Nat} : ∀ {U : List Rec2}, hidC id a b U = false → ∀ q ∈ U, ∀ j, a ≤ j → j < b → ¬ q.key (id, j)
  | [], _, q, hq, _, _, _ => by simp at hq
  | r :: U, h, q, hq, j, ha, hb => by
    simp only [hidC, ib_eq] at h
    by_cases h1 : newB id r = true
    · rw [if_pos h1] at h; cases h
    · rw [if_neg h1] at h
      by_cases h2 : tchC id a b r.tch = true
      · rw [if_pos h2] at h; cases h
      · rw [if_neg h2] at h
        rcases List.mem_cons.1 hq with rfl | hq
        · rintro (h3 | ⟨e, h3, h4, h5⟩)
          · exact h1 ((newB_eq _ _).2 h3)
          · obtain ⟨r, h6, h7⟩ := tchC_false (by simpa using h2) e h3 h4
            have := h5 r h6
            simp only at this
            omega
        · exact hidC_false h q hq j ha hb
theorem noneIn_true {c : T V} : ∀ {n o : Nat}, noneIn c n o = true → ∀ j, o ≤ j → j < o + n → c.get j = none
  | 0, o, _, j, h1, h2 => by omega
  | n + 1, o, h, j, h1, h2 => by
    simp only [noneIn] at h
    cases hc : c.get o with
    | some v => rw [hc] at h; cases h
    | none =>
      rw [hc] at h
      by_cases e : j = o
      · subst e; exact hc
      · exact noneIn_true h j (by omega) (by omega)
theorem late1_true {acc : Acc} : ∀ {l : List Tch}, late1 acc l = true → ∀ e ∈ l, ∀ k : K, Tch.has e k → cof acc k = none
  | [], _, e, he, _, _ => by simp at he
  | x :: l, h, e, he, k, hk => by
    simp only [late1, ib_eq] at h
    by_cases h1 : late0 (acc x.1) x.2 = true
    · rw [if_pos h1] at h
      rcases List.mem_cons.1 he with rfl | he
      · obtain ⟨hk1, hk2⟩ := hk
        simp only [cof, ← hk1]
        cases hx : acc e.1 with
        | none => rfl
        | some b =>
          rw [hx] at h1
          cases b with
          | dead => rfl
          | mp es ck => cases h1
          | cells n c =>
            cases hg : e.2 with
            | none => rw [hg] at h1; cases h1
            | some r =>
              rw [hg] at h1
              obtain ⟨r1, r2⟩ := r
              obtain ⟨q1, q2⟩ := hk2 _ hg
              simp only at q1 q2
              have := noneIn_true (c := c) (show noneIn c (r2 - r1) r1 = true from h1) k.2 q1 (by omega)
              simp [this]
      · exact late1_true h e he k hk
    · rw [if_neg h1] at h; cases h
theorem lateB_true {tch : List Tch} : ∀ {U : List Rec2}, lateB tch U = true → ∀ q ∈ U, late1 q.acc tch = true
  | [], _, q, hq => by simp at hq
  | r :: U, h, q, hq => by
    simp only [lateB, ib_eq] at h
    by_cases h1 : late1 r.acc tch = true
    · rw [if_pos h1] at h
      rcases List.mem_cons.1 hq with rfl | hq
      · exact h1
      · exact lateB_true h q hq
    · rw [if_neg h1] at h; cases h
theorem whB_true {U : List Rec2} : ∀ {l : List Tch}, whB U l = true → ∀ e ∈ l, e.2 = none → hidW e.1 U = false
  | [], _, e, he, _ => by simp at he
  | x :: l, h, e, he, h1 => by
    cases hx : x.2 with
    | none =>
      have h' : ib (hidW x.1 U) false (whB U l) = true := by
        simp only [whB, hx] at h; exact h
      rw [ib_eq] at h'
      by_cases h2 : hidW x.1 U = true
      · rw [if_pos h2] at h'; cases h'
      · rw [if_neg h2] at h'
        rcases List.mem_cons.1 he with rfl | he
        · simpa using h2
        · exact whB_true h' e he h1
    | some r =>
      have h' : whB U l = true := by simp only [whB, hx] at h; exact h
      rcases List.mem_cons.1 he with rfl | he
      · rw [hx] at h1; cases h1
      · exact whB_true h' e he h1
theorem oldTch_cons (nx : Nat) (e : Up) (l : List Up) : oldTch nx (e :: l) = if e.1 < nx then (e.1, e.2.1) :: oldTch nx l else oldTch nx l := by
  show ib (Nat.blt e.1 nx) ((e.1, e.2.1) :: oldTch nx l) (oldTch nx l) = _
  rw [ib_eq, nblt]; simp
theorem mem_oldTch {nx : Nat} {x : Tch} : ∀ {u : List Up}, x ∈ oldTch nx u ↔ ∃ e ∈ u, e.1 < nx ∧ x = (e.1, e.2.1)
  | [] => by simp [oldTch]
  | e :: u => by
    rw [oldTch_cons]
    split
    · rename_i h
      simp only [List.mem_cons, mem_oldTch]
      constructor
      · rintro (rfl | ⟨e', h1, h2⟩)
        · exact ⟨e, Or.inl rfl, h, rfl⟩
        · exact ⟨e', Or.inr h1, h2⟩
      · rintro ⟨e', rfl | h1, h2, h3⟩
        · exact Or.inl h3
        · exact Or.inr ⟨e', h1, h2, h3⟩
    · rename_i h
      simp only [mem_oldTch, List.mem_cons]
      constructor
      · rintro ⟨e', h1, h2⟩; exact ⟨e', Or.inr h1, h2⟩
      · rintro ⟨e', rfl | h1, h2, h3⟩
        · exact absurd h2 h
        · exact ⟨e', h1, h2, h3⟩
theorem mem_wholeT {x : Tch} : ∀ {l : List Nat}, x ∈ wholeT l ↔ ∃ i ∈ l, x = (i, none)
  | [] => by simp [wholeT]
  | i :: l => by simp [wholeT, mem_wholeT]
def kill : List Nat → T Blk → T Blk
  | [], h => h
  | i :: l, h => kill l (T.set h i .dead)
theorem killK_eq {β : Type} : ∀ (l : List Nat) (h : T Blk) (k : T Blk → β), killK l h k = k (kill l h)
  | [], _, _ => rfl
  | i :: l, h, k => by
    show num i (fun i => h.setK i .dead fun h' => killK l h' k) = _
    rw [num_eq, T.setK_eq, killK_eq l]; rfl
theorem kill_get : ∀ (l : List Nat) (h : T Blk) (id : Nat), (kill l h).get id = if id ∈ l then some .dead else h.get id
  | [], _, _ => by simp [kill]
  | i :: l, h, id => by
    rw [kill, kill_get l, T.get_set]
    by_cases h1 : id ∈ l
    · simp [h1]
    · by_cases h2 : i = id
      · simp [h1, h2]
      · simp [h1, h2, Ne.symm h2]
noncomputable def back (h0 : T Blk) : List Nat → T Blk → T Blk
  | [], h => h
  | i :: l, h => match h0.get i with
    | some b => back h0 l (T.set h i b)
    | none => back h0 l h
theorem backK_eq {β : Type} (h0 : T Blk) : ∀ (l : List Nat) (h : T Blk) (k : T Blk → β), backK h0 l h k = k (back h0 l h)
  | [], _, _ => rfl
  | i :: l, h, k => by
    show num i (fun i => Option.rec (motive := fun _ => β) (backK h0 l h k) (fun b => h.setK i b fun h' => backK h0 l h' k) (h0.get i)) = _
    rw [num_eq]
    cases hx : h0.get i with
    | none => simp only [backK_eq h0 l, back, hx]
    | some b => simp only [T.setK_eq, backK_eq h0 l, back, hx]
theorem back_get (h0 : T Blk) : ∀ (l : List Nat) (h : T Blk) (id : Nat), (back h0 l h).get id = if id ∈ l ∧ h0.get id ≠ none then h0.get id else h.get id
  | [], _, _ => by simp [back]
  | i :: l, h, id => by
    simp only [back]
    cases hx : h0.get i with
    | none =>
      simp only []
      rw [back_get h0 l]
      by_cases h2 : id = i
      · subst h2; simp [hx]
      · simp [h2]
    | some b =>
      simp only []
      rw [back_get h0 l, T.get_set]
      by_cases h2 : i = id
      · subst h2; simp [hx]
      · simp [h2, Ne.symm h2]
theorem mem_rangeL {id : Nat} : ∀ {n lo : Nat}, id ∈ rangeL n lo ↔ lo ≤ id ∧ id < lo + n
  | 0, lo => by simp [rangeL]
  | n + 1, lo => by
    simp only [rangeL, List.mem_cons, mem_rangeL]; omega
theorem mem_idsT {id : Nat} : ∀ {l : List Tch}, id ∈ idsT l ↔ ∃ e ∈ l, e.1 = id
  | [] => by simp [idsT]
  | e :: l => by simp [idsT, mem_idsT, eq_comm]
theorem mem_keysL {id : Nat} : ∀ {U : List Rec2}, id ∈ keysL U ↔ ∃ q ∈ U, (∃ e ∈ q.tch, e.1 = id) ∨ (q.lo ≤ id ∧ id < q.hi)
  | [] => by simp [keysL]
  | q :: U => by
    simp only [keysL, List.mem_append, mem_idsT, mem_rangeL, mem_keysL, List.mem_cons]
    constructor
    · rintro (h | h | ⟨q', h1, h2⟩)
      · exact ⟨q, Or.inl rfl, Or.inl h⟩
      · exact ⟨q, Or.inl rfl, Or.inr (by omega)⟩
      · exact ⟨q', Or.inr h1, h2⟩
    · rintro ⟨q', rfl | h1, h2 | h2⟩
      · exact Or.inl h2
      · exact Or.inr (Or.inl (by omega))
      · exact Or.inr (Or.inr ⟨q', h1, Or.inl h2⟩)
      · exact Or.inr (Or.inr ⟨q', h1, Or.inr h2⟩)
theorem key_keysL {U : List Rec2} {q : Rec2} (hq : q ∈ U) {k : K} (h : q.key k) : k.1 ∈ keysL U := by
  rcases h with h | ⟨e, h1, h2, _⟩
  · exact mem_keysL.2 ⟨q, hq, Or.inr h⟩
  · exact mem_keysL.2 ⟨q, hq, Or.inl ⟨e, h1, h2⟩⟩
end
end Go.X
