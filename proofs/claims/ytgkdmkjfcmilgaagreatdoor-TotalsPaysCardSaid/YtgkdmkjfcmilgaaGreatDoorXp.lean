/- What the executor says of one operation is what the model does: append. -/
import Derived.Test.YtgkdmkjfcmilgaaGreatDoorXo
import Derived.Laws.AppendOwn
set_option linter.unusedVariables false
set_option linter.unusedSimpArgs false
namespace Go.X
section
variable {P : Program} {f : Operand → Option V} {acc : Nat → Option Blk} {nx : Nat} {r : PR} {μ μ' : Nat → Nat × Nat} {A A' : Nat → Prop} {w w' : World}
/-- A block that is given up beside what is made. -/
theorem post_kill {b : Nat} {upd : List Up} {v : V} {y : Value} {nx' : Nat} (h : Post (cof acc) (upKey nx nx' upd) (upVal upd) v A' A μ μ' w w' y) (hb : b < nx) (hup : upB upd b = none) :
    Post (cof acc) (upKey nx nx' ((b, none, .dead) :: upd)) (upVal ((b, none, .dead) :: upd)) v A' A μ μ' w w' y := by
  have hval : ∀ k c, upVal ((b, none, .dead) :: upd) k = some c → k.1 ≠ b ∧ upVal upd k = some c := by
    intro k c h
    simp only [upVal, cof, upB] at h ⊢
    cases e : upB upd k.1 with
    | some x =>
      rw [e] at h
      refine ⟨fun e2 => ?_, h⟩
      rw [e2, hup] at e; cases e
    | none =>
      rw [e] at h
      by_cases e2 : b = k.1
      · simp [e2] at h
      · simp [e2] at h
  have hkey : ∀ k, upKey nx nx' ((b, none, .dead) :: upd) k → k.1 ≠ b → upKey nx nx' upd k := by
    rintro k (h | ⟨e, h, h2, h3, h4⟩) hn
    · exact Or.inl h
    · rcases List.mem_cons.1 h with rfl | h
      · exact absurd h3.symm hn
      · exact Or.inr ⟨e, h, h2, h3, h4⟩
  have hkey' : ∀ k, upKey nx nx' upd k → upKey nx nx' ((b, none, .dead) :: upd) k := by
    rintro k (h | ⟨e, h, h2⟩)
    · exact Or.inl h
    · exact Or.inr ⟨e, by simp [h], h2⟩
  have hnone : ∀ k, upVal upd k = none → upVal ((b, none, .dead) :: upd) k = none := by
    intro k h
    cases e : upVal ((b, none, .dead) :: upd) k with
    | none => rfl
    | some c => rw [(hval k c e).2] at h; cases h
  refine ⟨h.le, h.res, ?_, ?_, ?_, h.fr.mono ?_⟩
  · intro k c h1 h2
    obtain ⟨e1, e2⟩ := hval k c h2
    exact h.hp k c (hkey k h1 e1) e2
  · intro k k' c c' h1 h2 h3 h4
    obtain ⟨e1, e2⟩ := hval k c h3
    obtain ⟨e3, e4⟩ := hval k' c' h4
    exact h.inj k k' c c' (hkey k h1 e1) (hkey k' h2 e3) e2 e4
  · intro k c h1 h2 h3
    obtain ⟨e1, e2⟩ := hval k c h2
    rcases h.new k c (hkey k h1 e1) e2 h3 with h4 | ⟨k', c', h4, h5, h6⟩
    · exact Or.inl h4
    · exact Or.inr ⟨k', c', h4, fun j => ⟨hkey' _ (h5 j).1, hnone _ (h5 j).2⟩, h6⟩
  · rintro bb o _ ⟨k, c, h1, h2⟩
    exact ⟨k, c, hkey' k h1, h2.1, h2.2.1, h2.2.2.imp id fun q j => hkey' _ (q j)⟩
/-- The cells that an append takes over. -/
theorem src_sound {k m : Nat} {x : V} {new : List V} {xv : Value} (h : srcP acc k x = some (new, m)) (hx : VR μ A w x xv) (hacc : ∀ k c, cof acc k = some c → A k.1 ∧ k.1 < nx ∧ CR μ A w k c) :
    ∃ base c, xv = .slice base m c ∧ ∃ xs : List Value, VRs μ A w new xs ∧ xs.length = m * k ∧ ((base = none ∧ m = 0) ∨ ∃ a, base = some a ∧ ∀ j y, xs[j]? = some y → w.cell? (a.add j) = some y) := by
  unfold srcP at h
  split at h
  · cases h; exact ⟨none, 0, hx, [], trivial, by simp, Or.inl ⟨rfl, rfl⟩⟩
  · cases h
    obtain ⟨a, c, rfl⟩ := hx
    exact ⟨some a, c, rfl, [], trivial, by simp, Or.inr ⟨a, rfl, fun j y h => by simp at h⟩⟩
  · rename_i b o n es cap
    obtain ⟨q, c, h1, h2⟩ := ob2_some.1 h
    obtain ⟨l, h3, h4⟩ := ob_some.1 h2
    cases h4
    obtain ⟨ha, kk, rfl, _⟩ := hx
    obtain ⟨h5, h6⟩ := takeC_some h3
    have hb := cellsOf_some h1
    obtain ⟨xs, h7, h8⟩ := cells_of (μ := μ) (A := A) (w := w) (b := b) (l := new) (o := o) fun j u hj => (hacc (b, o + j) (.val u) (by simp [cof, hb, h6 j u hj])).2.2
    refine ⟨_, kk, rfl, xs, h7, by rw [← VRs.length h7]; exact h5, Or.inr ⟨_, rfl, fun j y hj => ?_⟩⟩
    rw [add_at', Nat.add_assoc]; exact h8 j y hj
  · cases h
theorem Pushed.drewAlloc (w : World) (o : Obj) : Pushed w (w.drew.alloc o) o := ⟨rfl, rfl, rfl, rfl⟩
theorem anyC_some : ∀ {c : T V}, anyC c = true → ∃ j u, c.get j = some u
  | .e, h => by cases h
  | .n (some v) l r, _ => ⟨0, v, rfl⟩
  | .n none l r, h => by
    simp only [anyC, ib_eq] at h
    split at h
    · rename_i h1
      obtain ⟨j, u, h2⟩ := anyC_some h1
      refine ⟨2 * j + 1, u, ?_⟩
      rw [T.get_s]
      simp [h2]
    · obtain ⟨j, u, h2⟩ := anyC_some h
      refine ⟨2 * j + 1 + 1, u, ?_⟩
      rw [T.get_s]
      have e1 : (2 * j + 1) % 2 = 1 := by omega
      have e2 : (2 * j + 1) / 2 = j := by omega
      simp [e1, e2, h2]
theorem run_call_append {t : TypeId} {s x : Operand} {c : Call} {ρ : Operand → Value} {o : Oper} (ho : o.op = .call c) (h1 : c.callee = .builtin .append) (h2 : c.args.toList = [s, x]) (h3 : c.argTypes.toList = [t, t]) (w1 : World) :
    (execOp ρ o).run P w1 = ((Builtin.append_ #[t, t] o.type #[ρ s, ρ x]).run P w1).andThen fun v w2 => .ok (.value v) w2 := by
  obtain ⟨dst, op, ty, pos, after, guard⟩ := o
  obtain ⟨callee, args, argTypes⟩ := c
  simp only at ho h1 h2 h3; subst ho; subst h1
  have e1 : args = #[s, x] := by rw [← Array.toList_inj]; exact h2
  have e2 : argTypes = #[t, t] := by rw [← Array.toList_inj]; exact h3
  subst e1; subst e2
  simp [execOp, resolve, invoke, builtin]
/-- Stores into cells that are there, whatever they hold. -/
theorem storeCells_raw {bb : Nat} : ∀ {xs : List Value} {oo o0 i : Nat} {w : World}, oo = o0 + i → (∀ x ∈ xs, x.oneCell' = true) → (∀ j, j < xs.length → (w.cell? ⟨bb, oo + j, none⟩).isSome = true) → (∀ o, w.frozen? ⟨bb, o, none⟩ = false) →
    ∃ w', (storeCells ⟨bb, o0, none⟩ xs i).run P w = .ok () w' ∧ Stored w w' bb oo xs.length ∧ ∀ j x, xs[j]? = some x → w'.cell? ⟨bb, oo + j, none⟩ = some x
  | [], _, _, _, w, _, _, _, _ => ⟨w, rfl, Stored.refl _ _ _, fun j x h => by simp at h⟩
  | x :: xs, oo, o0, i, w, ho, h1, hc, hf => by
    obtain ⟨y, hy⟩ := Option.isSome_iff_exists.1 (hc 0 (by simp))
    simp only [Nat.add_zero] at hy
    have hs := Stored.one w bb oo x
    have hrun : (store ((⟨bb, o0, none⟩ : Addr).add i) x).run P w = .ok () (w.setCell ⟨bb, oo, none⟩ x) := by
      rw [add_at', ← ho, run_store P w _ x _ (h1 x (by simp)), hy]; simp [hf]
    have hx : (w.setCell ⟨bb, oo, none⟩ x).cell? ⟨bb, oo, none⟩ = some x := World.cell?_setCell_same _ _ _ hy
    obtain ⟨w', h5, h6, h7⟩ := storeCells_raw (xs := xs) (oo := oo + 1) (o0 := o0) (i := i + 1) (w := w.setCell ⟨bb, oo, none⟩ x) (by omega) (fun z hz => h1 z (by simp [hz]))
      (fun j hj => by
        rw [hs.cell _ _ (by rintro ⟨_, q1, q2⟩; omega), show oo + 1 + j = oo + (j + 1) by omega]
        exact hc (j + 1) (by simpa using hj)) (fun o => by rw [hs.froz]; exact hf o)
    refine ⟨w', by simp only [storeCells, Sem.run_bind, hrun, Result.andThen_ok]; exact h5, hs.cons h6, fun j z hj => ?_⟩
    cases j with
    | zero =>
      simp at hj; subst hj
      rw [Nat.add_zero, h6.cell _ _ (by rintro ⟨_, q1, q2⟩; omega)]; exact hx
    | succ j =>
      rw [show oo + (j + 1) = oo + 1 + j by omega]; exact h7 j z (by simpa using hj)
theorem VRs.ones : ∀ {l : List V} {xs : List Value}, VRs μ A w l xs → (∀ v ∈ l, v.one = true) → ∀ x ∈ xs, x.oneCell' = true
  | [], [], _, _, x, hx => by simp at hx
  | [], _ :: _, h, _, _, _ => h.elim
  | _ :: _, [], h, _, _, _ => h.elim
  | v :: l, y :: ys, h, h1, x, hx => by
    simp only [VRs] at h
    rcases List.mem_cons.1 hx with rfl | hx
    · exact one_oneCell h.1 (h1 v (by simp))
    · exact VRs.ones h.2 (fun u hu => h1 u (by simp [hu])) x hx
/-- An append that makes a new row. -/
theorem grow_run {t ty e : TypeId} {i : TypeInfo} {z : Value} {k : Nat} (hu : P.underlying t = some (.slice e)) (hi : P.info? e = some i) (hz : i.zero = some z) (hk : i.size = k) (hzk : z.cells.size = k)
    {a0 a1 : Addr} {n m kc c : Nat} {olds news : List Value} (ho : olds.length = n * k) (holds : ∀ j y, olds[j]? = some y → w.cell? (a0.add j) = some y)
    (hn : news.length = m * k) (hnews : ∀ j y, news[j]? = some y → w.cell? (a1.add j) = some y) (hg : kc < n + m) (hb : (n + m) * i.bytes ≤ 140737488355328) (h63 : n + m ≤ 9223372036854775807) :
    ∃ g w' cs, (Builtin.append_ #[t, t] ty #[.slice (some a0) n kc, .slice (some a1) m c]).run P w = .ok (.slice (some ⟨w.heap.size, 0, none⟩) (n + m) g) w' ∧ Pushed w w' (.cells cs e) ∧
      (∃ rest, cs.toList = (olds ++ news) ++ rest) ∧ cs.size = g * k ∧ n + m ≤ g := by
  have h := run_append_grow (P := P) w t ty e i z hu hi hz a0 n kc olds (by rw [hk]; exact ho) holds a1 m c news (by rw [hk]; exact hn) hnews hg (by omega) (growslice_fits hg hb)
  have hge := grownCap_ge w (n + m) kc e
  refine ⟨_, _, _, h, Pushed.drewAlloc _ _, ⟨(Builtin.zeroCells z.cells (grownCap w (n + m) kc e - (n + m))).toList, by simp⟩, ?_, hge⟩
  simp only [Array.size_append, List.size_toArray, size_zeroCells, ho, hn, hzk]
  rw [← Nat.add_mul, ← Nat.add_mul]; congr 1; omega
end
end Go.X
