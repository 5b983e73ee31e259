/- What the executor says of one operation is what the model does: memory. -/
import Derived.Test.YtgkdmkjfcmilgaaGreatDoorXh
import Derived.Laws.Cells
set_option linter.unusedVariables false
set_option linter.unusedSimpArgs false
namespace Go.X
theorem add_at' (b o j : Nat) : (⟨b, o, none⟩ : Addr).add j = ⟨b, o + j, none⟩ := by unfold Addr.add; split <;> simp_all
theorem takeC_succ (c : T V) (n o : Nat) : takeC c (n + 1) o = ob (c.get o) fun v => ob (takeC c n (o + 1)) fun l => some (v :: l) := by
  show ob (c.get o) (fun v => ob (num (Nat.succ o) (takeC c n)) fun l => some (v :: l)) = _
  simp only [num_eq]
theorem takeC_some {c : T V} : ∀ {n o : Nat} {l : List V}, takeC c n o = some l → l.length = n ∧ ∀ j v, l[j]? = some v → c.get (o + j) = some v
  | 0, o, l, h => by
    obtain rfl : [] = l := Option.some.inj h
    exact ⟨rfl, fun j v h => by simp at h⟩
  | n + 1, o, l, h => by
    rw [takeC_succ] at h
    obtain ⟨v, h1, h2⟩ := ob_some.1 h
    obtain ⟨l', h3, h4⟩ := ob_some.1 h2
    cases h4
    obtain ⟨h5, h6⟩ := takeC_some h3
    refine ⟨by simp [h5], fun j u hj => ?_⟩
    cases j with
    | zero => simp at hj; subst hj; exact h1
    | succ j =>
      have := h6 j u (by simpa using hj)
      rw [show o + (j + 1) = o + 1 + j by omega]; exact this
theorem len_eq : ∀ (l : List V) (n : Nat), len l n = l.length + n
  | [], n => (Nat.zero_add n).symm
  | v :: l, n => by
    show num (Nat.succ n) (len l) = _
    rw [num_eq, len_eq l]; simp; omega
section
variable {P : Program} {μ : Nat → Nat × Nat} {A : Nat → Prop} {w : World}
/-- Values under cells that read. -/
theorem cells_of {b : Nat} : ∀ {l : List V} {o : Nat}, (∀ j v, l[j]? = some v → CR μ A w (b, o + j) (.val v)) →
    ∃ xs : List Value, VRs μ A w l xs ∧ ∀ j x, xs[j]? = some x → w.cell? ⟨(μ b).1, (μ b).2 + (o + j), none⟩ = some x
  | [], _, _ => ⟨[], trivial, fun j x h => by simp at h⟩
  | v :: l, o, h => by
    obtain ⟨_, _, x, h1, h2⟩ := h 0 v rfl
    obtain ⟨xs, h3, h4⟩ := cells_of (l := l) (o := o + 1) (fun j u hj => by
      have := h (j + 1) u (by simpa using hj)
      rw [show o + 1 + j = o + (j + 1) by omega]; exact this)
    refine ⟨x :: xs, ⟨h2, h3⟩, fun j y hj => ?_⟩
    cases j with
    | zero => simp at hj; subst hj; exact h1
    | succ j =>
      have := h4 j y (by simpa using hj)
      rw [show o + (j + 1) = o + 1 + j by omega]; exact this
theorem isAg_some {t : TypeId} {g : Bool} (h : isAg P t = some g) (w1 : World) : (isAgg t).run P w1 = .ok g w1 := by
  unfold isAg at h
  split at h <;> first | (cases h; rename_i hu; simp [isAgg, run_underlying' hu]; done) | (cases h; rename_i d hu _ _; simp only [isAgg, Sem.run_bind, run_underlying' hu, Result.andThen_ok]; split <;> first | rfl | simp_all) | cases h
theorem sz_some {t : TypeId} {n : Nat} (h : sz P t = some n) : ∃ i, P.info? t = some i ∧ i.size = n := by
  unfold sz at h
  split at h
  · rename_i i hi; rw [num_eq] at h; exact ⟨i, hi, Option.some.inj h⟩
  · cases h
theorem run_sizeOf {t : TypeId} {n : Nat} (h : sz P t = some n) (w1 : World) : (sizeOf t).run P w1 = .ok n w1 := by
  obtain ⟨i, h1, rfl⟩ := sz_some h
  simp [sizeOf, typeInfo, h1]
theorem loadVar_sound {acc : Nat → Option Blk} {t : TypeId} {b o : Nat} {v : V} (h : loadP P acc t b o = some v) (hacc : ∀ k c, cof acc k = some c → A k.1 ∧ CR μ A w k c) :
    ∃ y, (loadVar t ⟨(μ b).1, (μ b).2 + o, none⟩).run P w = .ok y w ∧ VR μ A w v y := by
  obtain ⟨n, c, h1, h2⟩ := ob2_some.1 h
  have hb := cellsOf_some h1
  obtain ⟨g, h3, h4⟩ := ob_some.1 h2
  have hc : ∀ j u, c.get j = some u → CR μ A w (b, j) (.val u) := fun j u hj => (hacc (b, j) (.val u) (by simp [cof, hb, hj])).2
  rw [ib_eq] at h4
  cases g with
  | true =>
    simp only [if_true] at h4
    obtain ⟨m, h5, h6⟩ := ob_some.1 h4
    obtain ⟨l, h7, h8⟩ := ob_some.1 h6
    cases h8
    obtain ⟨h9, h10⟩ := takeC_some h7
    obtain ⟨xs, h11, h12⟩ := cells_of (l := l) (o := o) fun j u hj => hc (o + j) u (h10 j u hj)
    have hlen : xs.length = m := by rw [← VRs.length h11]; exact h9
    have hr := run_loadCells_list (P := P) w ⟨(μ b).1, (μ b).2 + o, none⟩ xs (fun j x hj => by rw [add_at', Nat.add_assoc]; exact h12 j x hj)
    rw [hlen] at hr
    exact ⟨.agg xs.toArray, by simp [loadVar, isAg_some h3, run_sizeOf h5, hr], xs.toArray, rfl, h11⟩
  | false =>
    simp only [Bool.false_eq_true, if_false] at h4
    obtain ⟨_, _, x, h5, h6⟩ := hc o v h4
    exact ⟨x, by simp [loadVar, isAg_some h3]; simp only [at_] at h5; simp [h5], h6⟩
end
end Go.X
