/- What the executor says of one operation is what the model does: stores. -/
import Derived.Test.YtgkdmkjfcmilgaaGreatDoorXn
set_option linter.unusedVariables false
set_option linter.unusedSimpArgs false
namespace Go.X
/-- Some cells of one block are written. -/
structure Stored (w w' : World) (b lo n : Nat) : Prop where
  os : w'.os = w.os
  tape : w'.tape = w.tape
  output : w'.output = w.output
  size : w'.heap.size = w.heap.size
  cell : ∀ c o, ¬ (c = b ∧ lo ≤ o ∧ o < lo + n) → w'.cell? ⟨c, o, none⟩ = w.cell? ⟨c, o, none⟩
  froz : ∀ c o, w'.frozen? ⟨c, o, none⟩ = w.frozen? ⟨c, o, none⟩
  obj : ∀ c, c ≠ b → w'.heap[c]? = w.heap[c]?
  bs : ∀ c, bsz w' c = bsz w c
  zero : n = 0 → w'.heap = w.heap
theorem Stored.refl (w : World) (b lo : Nat) : Stored w w b lo 0 := ⟨rfl, rfl, rfl, rfl, fun _ _ _ => rfl, fun _ _ => rfl, fun _ _ => rfl, fun _ => rfl, fun _ => rfl⟩
theorem Stored.one (w : World) (b o : Nat) (x : Value) : Stored w (w.setCell ⟨b, o, none⟩ x) b o 1 := by
  refine ⟨rfl, rfl, rfl, by simp, fun c p h => ?_, fun c p => World.frozen?_setCell _ _ _ _, fun c h => ?_, fun c => ?_, fun h => by cases h⟩
  · exact World.cell?_setCell_other _ _ _ _ (fun e => h (by cases e; exact ⟨rfl, Nat.le_refl _, by omega⟩))
  · simp only [World.setCell, Array.getElem?_modify]; rw [if_neg (fun e => h e.symm)]
  · unfold bsz
    simp only [World.setCell, Array.getElem?_modify]
    by_cases e : b = c
    · subst e
      rw [if_pos rfl]
      cases hh : w.heap[b]? with
      | none => rfl
      | some ob => cases ob <;> simp
    · rw [if_neg e]
theorem Stored.cons {w1 w2 w3 : World} {b lo n : Nat} (h : Stored w1 w2 b lo 1) (k : Stored w2 w3 b (lo + 1) n) : Stored w1 w3 b lo (n + 1) :=
  ⟨k.os.trans h.os, k.tape.trans h.tape, k.output.trans h.output, k.size.trans h.size,
   fun c o hn => (k.cell c o fun ⟨e1, e2, e3⟩ => hn ⟨e1, by omega, by omega⟩).trans (h.cell c o fun ⟨e1, e2, e3⟩ => hn ⟨e1, by omega, by omega⟩),
   fun c o => (k.froz c o).trans (h.froz c o), fun c hc => (k.obj c hc).trans (h.obj c hc), fun c => (k.bs c).trans (h.bs c), fun h => by cases h⟩
section
variable {P : Program} {f : Operand → Option V} {acc : Nat → Option Blk} {nx : Nat} {r : PR} {μ : Nat → Nat × Nat} {A : Nat → Prop} {w w' : World}
theorem Stored.le {b lo n : Nat} (h : Stored w w' b lo n) : Le μ μ A A w w' := ⟨fun _ h => h, fun _ _ => rfl, fun c => by rw [h.bs]; exact Nat.le_refl _⟩
theorem one_oneCell {v : V} {x : Value} (h : VR μ A w v x) (h1 : v.one = true) : x.oneCell' = true := by
  cases v <;> first
    | (cases h1; done)
    | (simp only [VR] at h; subst h; rfl)
    | (obtain ⟨s, rfl, _⟩ := h; rfl)
    | (obtain ⟨_, rfl⟩ := h; rfl)
    | (obtain ⟨_, k, rfl, _⟩ := h; rfl)
    | (obtain ⟨a, k, rfl⟩ := h; rfl)
theorem storeCells_sound {b : Nat} : ∀ {l : List V} {xs : List Value} {c c' : T V} {o o0 i : Nat} {w : World}, VRs μ A w l xs → putC l c o = some c' → o = o0 + i →
    (∀ j v, c.get j = some v → CR μ A w (b, j) (.val v)) →
    ∃ w', (storeCells ⟨(μ b).1, (μ b).2 + o0, none⟩ xs i).run P w = .ok () w' ∧ Stored w w' (μ b).1 ((μ b).2 + o) l.length ∧ ∀ j v, c'.get j = some v → CR μ A w' (b, j) (.val v)
  | [], [], c, c', o, o0, i, w, _, h, _, hc => by
    obtain rfl : c = c' := Option.some.inj h
    exact ⟨w, rfl, Stored.refl _ _ _, hc⟩
  | [], _ :: _, _, _, _, _, _, _, h, _, _, _ => h.elim
  | _ :: _, [], _, _, _, _, _, _, h, _, _, _ => h.elim
  | v :: l, x :: xs, c, c', o, o0, i, w, hv, h, ho, hc => by
    rw [putC_cons] at h
    obtain ⟨h1, h2⟩ := gd_some.1 h
    obtain ⟨u, h3, h4⟩ := ob_some.1 h2
    simp only [VRs] at hv
    obtain ⟨_, hf, y, hcell, _⟩ := hc o u h3
    have hs := Stored.one w (μ b).1 ((μ b).2 + o) x
    have hrun : (store ((⟨(μ b).1, (μ b).2 + o0, none⟩ : Addr).add i) x).run P w = .ok () (w.setCell ⟨(μ b).1, (μ b).2 + o, none⟩ x) := by
      rw [add_at', Nat.add_assoc, ← ho, run_store P w _ x _ (one_oneCell hv.1 h1)]
      simp only [at_] at hcell
      rw [hcell]; simp [hf]
    have hc1 : ∀ j q, (T.set c o v).get j = some q → CR μ A (w.setCell ⟨(μ b).1, (μ b).2 + o, none⟩ x) (b, j) (.val q) := by
      intro j q hq
      rw [T.get_set] at hq
      by_cases e : o = j
      · subst e
        rw [if_pos rfl] at hq; cases hq
        refine ⟨h1, fun p => by rw [hs.froz]; exact hf p, x, ?_, VR.up hs.le _ _ hv.1⟩
        exact World.cell?_setCell_same _ _ _ hcell
      · rw [if_neg e] at hq
        obtain ⟨g1, g2, z, g3, g4⟩ := hc j q hq
        refine ⟨g1, fun p => by rw [hs.froz]; exact g2 p, z, ?_, VR.up hs.le _ _ g4⟩
        rw [at_, hs.cell _ _ (by rintro ⟨_, q1, q2⟩; simp only at q1 q2; omega)]; exact g3
    obtain ⟨w', h5, h6, h7⟩ := storeCells_sound (o := o + 1) (o0 := o0) (i := i + 1) (VRs.up hs.le _ _ hv.2) h4 (by omega) hc1
    refine ⟨w', ?_, ?_, h7⟩
    · simp only [storeCells, Sem.run_bind, hrun, Result.andThen_ok]; exact h5
    · rw [← Nat.add_assoc] at h6; exact hs.cons h6
/-- Behind a store into a block's own cells. -/
theorem post_store {b lo hi n : Nat} {c c' : T V} {v : V} {y : Value} (hb : acc b = some (.cells n c)) (hlt : b < nx) (hA : A b) (hs : Stored w w' (μ b).1 ((μ b).2 + lo) (hi - lo)) (hle : lo ≤ hi)
    (hin : ∀ j, lo ≤ j → j < hi → c.get j ≠ none) (hc : ∀ j u, c'.get j = some u → CR μ A w' (b, j) (.val u)) (hv : VR μ A w' v y) {m : Nat} :
    Post (cof acc) (upKey nx nx [(b, some (lo, hi), .cells m c')]) (upVal [(b, some (lo, hi), .cells m c')]) v (fun id => A id ∨ (nx ≤ id ∧ id < nx)) A μ μ w w' y := by
  have hle' : Le μ μ A (fun id => A id ∨ (nx ≤ id ∧ id < nx)) w w' := ⟨fun _ => Or.inl, fun _ _ => rfl, fun c => by rw [hs.bs]; exact Nat.le_refl _⟩
  have hA' : (fun id => A id ∨ (nx ≤ id ∧ id < nx)) = A := by funext id; apply propext; constructor; (rintro (h | h); exact h; omega); exact Or.inl
  have hk : ∀ k, upKey nx nx [(b, some (lo, hi), .cells m c')] k → k.1 = b ∧ lo ≤ k.2 ∧ k.2 < hi := by
    rintro k (h | ⟨e, h, _, h2, h3⟩)
    · omega
    · simp at h; subst h
      exact ⟨h2.symm, h3 _ rfl⟩
  have hval : ∀ k x, k.1 = b → upVal [(b, some (lo, hi), .cells m c')] k = some x → ∃ u, x = .val u ∧ c'.get k.2 = some u := by
    intro k x e h
    simp only [upVal, cof, upB, e, if_true, Option.map_eq_some_iff] at h
    obtain ⟨u, h1, h2⟩ := h; exact ⟨u, h2.symm, h1⟩
  refine ⟨hle', by rw [hA']; exact hv, ?_, ?_, ?_, ?_⟩
  · intro k x h1 h2
    obtain ⟨e, _⟩ := hk k h1
    obtain ⟨u, rfl, h3⟩ := hval k x e h2
    rw [hA']
    obtain ⟨i, j⟩ := k; simp only at e; subst e
    exact ⟨Or.inl hA, hc j u h3⟩
  · intro k k' x x' h1 h2 _ _ hn
    exact absurd ((hk k h1).1.trans (hk k' h2).1.symm) hn
  · intro k x h1 _ hn
    exact absurd ((hk k h1).1 ▸ hA) hn
  · have hkey : ∀ o, lo ≤ o → o < hi → ∃ k c0, upKey nx nx [(b, some (lo, hi), .cells m c')] k ∧ cof acc (k.1, c0) ≠ none ∧ (μ b).1 = (μ k.1).1 ∧ (μ b).2 + o = (μ k.1).2 + k.2 := by
      intro o h1 h2
      refine ⟨(b, o), o, Or.inr ⟨(b, some (lo, hi), .cells m c'), by simp, hlt, rfl, fun r hr => by cases hr; exact ⟨h1, h2⟩⟩, ?_, rfl, rfl⟩
      have := hin o h1 h2
      simp only [cof, hb]
      cases e : c.get o with
      | none => exact absurd e this
      | some u => simp
    refine ⟨hs.os, hs.tape, hs.output, by rw [hs.size]; exact Nat.le_refl _, fun bb o _ hn => hs.cell bb o ?_, fun bb o _ => hs.froz bb o, fun bb _ hn => ?_, fun c => by rw [hs.bs]; exact Nat.le_refl _⟩
    · rintro ⟨e1, e2, e3⟩
      obtain ⟨k, c0, q1, q2, q3, q4⟩ := hkey (o - (μ b).2) (by omega) (by omega)
      exact hn ⟨k, c0, q1, q2, by rw [e1]; exact q3, by omega⟩
    · by_cases e : bb = (μ b).1
      · by_cases e2 : lo < hi
        · obtain ⟨k, c0, q1, q2, q3, q4⟩ := hkey lo (Nat.le_refl _) e2
          exact absurd ⟨k, c0, q1, q2, by rw [e]; exact q3, Or.inl rfl⟩ (hn ((μ k.1).2 + k.2))
        · rw [hs.zero (by omega)]
      · exact hs.obj bb e
theorem pStore_ok {t : TypeId} {a x : Operand} (h : pStore t a x P f acc nx = some r) : PrimOK P f acc nx (.store t a x) r := by
  obtain ⟨av, h1, h2⟩ := ob_some.1 h
  obtain ⟨v, h3, h4⟩ := ob_some.1 h2
  obtain ⟨b, o', h5, h6⟩ := ob2_some.1 h4
  have := asPtr_some h5; subst this
  obtain ⟨n, c, h7, h8⟩ := ob2_some.1 h6
  obtain ⟨k, h9, h10⟩ := ob_some.1 h8
  obtain ⟨h0, h10⟩ := gd_some.1 h10
  rw [nblt] at h0; simp only [decide_eq_true_eq] at h0
  obtain ⟨h11, h12⟩ := gd_some.1 h10
  obtain ⟨c', h13, h14⟩ := ob_some.1 h12
  rw [num_eq] at h14; cases h14
  have hb := cellsOf_some h7
  rw [nbeq, len_eq] at h11; simp only [Nat.add_zero, decide_eq_true_eq] at h11
  obtain ⟨p1, p2, p3⟩ := putC_some h13
  refine ⟨Nat.le_refl _, fun e he => ?_, fun μ A w ρ o ho hρ hacc _ _ => ?_⟩
  · simp at he; subst he
    have hsome : ∀ j, o' ≤ j → j < o' + v.cells.length → cof acc (b, j) ≠ none := fun j j1 j2 => by
      have := p2 j j1 j2
      simp only [cof, hb]
      cases e : c.get j with
      | none => exact absurd e this
      | some u => simp
    refine Or.inr ⟨⟨o', hsome o' (Nat.le_refl _) (by omega)⟩, fun r hr => ?_⟩
    cases hr
    refine ⟨fun j j1 j2 => hsome j j1 (by simp only at j2; omega), fun j hj => ?_⟩
    simp only at hj
    simp only [cof, hb, p3 j]
    rw [if_neg (by omega)]
  · obtain ⟨hA, ha⟩ := hρ a (by simp [Op.operands]) _ h1
    have hx := hρ x (by simp [Op.operands]) _ h3
    have hcs := cells_VR hx
    have hc : ∀ j u, c.get j = some u → CR μ A w (b, j) (.val u) := fun j u hj => (hacc (b, j) (.val u) (by simp [cof, hb, hj])).2.2
    obtain ⟨w', e1, e2, e3⟩ := storeCells_sound (P := P) (o0 := o') (i := 0) hcs h13 rfl hc
    have hlen : (ρ x).cells.size = k := by rw [← h11, VRs.length hcs]; simp
    rw [h11] at e2 p2
    have hbx : b < nx := by
      have := p2 o' (Nat.le_refl _) (by omega)
      cases e : c.get o' with
      | none => exact absurd e this
      | some u => exact (hacc (b, o') (.val u) (by simp [cof, hb, e])).2.1
    refine ⟨undef, w', μ, Or.inr ⟨?_, rfl⟩, post_store hb hbx hA (by rw [Nat.add_sub_cancel_left]; exact e2) (by omega) (fun j j1 j2 => p2 j j1 j2) e3 (show VR μ A w' (.tup []) undef from ⟨#[], rfl, trivial⟩)⟩
    obtain ⟨dst, op, ty, pos, after, guard⟩ := o
    simp only at ho; subst ho
    simp [execOp, ha, Instr.storeAt, Instr.sureAddr, storeVar, run_sizeOf h9, hlen, e1]
end
end Go.X
