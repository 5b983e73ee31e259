/- What the executor says of one operation is what the model does: new blocks, stores. -/
import Derived.Test.YtgkdmkjfcmilgaaGreatDoorXi
import Derived.Laws.NewFold
set_option linter.unusedVariables false
set_option linter.unusedSimpArgs false
namespace Go.X
/-- A block more, and maybe a draw. -/
structure Pushed (w w' : World) (o : Obj) : Prop where
  heap : w'.heap = w.heap.push o
  os : w'.os = w.os
  tape : w'.tape = w.tape
  output : w'.output = w.output
theorem Pushed.alloc (w : World) (o : Obj) : Pushed w (w.alloc o) o := ⟨rfl, rfl, rfl, rfl⟩
section
variable {μ : Nat → Nat × Nat} {A : Nat → Prop} {w w' : World} {o : Obj}
theorem Pushed.old (h : Pushed w w' o) {b : Nat} (hb : b < w.heap.size) : w'.heap[b]? = w.heap[b]? := by
  rw [h.heap, Array.getElem?_push]; rw [if_neg (by omega)]
theorem Pushed.new (h : Pushed w w' o) : w'.heap[w.heap.size]? = some o := by rw [h.heap]; simp
theorem Pushed.bs (h : Pushed w w' o) (b : Nat) : bsz w b ≤ bsz w' b := by
  by_cases hb : b < w.heap.size
  · unfold bsz; rw [h.old hb]; exact Nat.le_refl _
  · unfold bsz; rw [Array.getElem?_eq_none (by omega)]; exact Nat.zero_le _
theorem Pushed.fr (h : Pushed w w' o) (B : Nat → Nat → Prop) : Fr B w w' :=
  ⟨h.os, h.tape, h.output, by rw [h.heap]; simp, fun b p hb _ => by simp [World.cell?, h.old hb], fun b p hb => by simp [World.frozen?, h.old hb], fun b hb _ => h.old hb, h.bs⟩
end
/-- The map with the new block in it. -/
def put (μ : Nat → Nat × Nat) (nx : Nat) (p : Nat × Nat) : Nat → Nat × Nat := fun id => if id = nx then p else μ id
theorem put_new (μ : Nat → Nat × Nat) (nx : Nat) (p : Nat × Nat) : put μ nx p nx = p := by simp [put]
theorem put_old (μ : Nat → Nat × Nat) {nx id : Nat} (p : Nat × Nat) (h : id ≠ nx) : put μ nx p id = μ id := by simp [put, h]
section
variable {acc : Nat → Option Blk} {nx : Nat} {v : V} {blk : Blk} {μ : Nat → Nat × Nat} {A : Nat → Prop} {w w' : World} {o : Obj} {y : Value}
theorem Pushed.le (h : Pushed w w' o) (hA : ¬ A nx) (p : Nat × Nat) : Le μ (put μ nx p) A (fun id => A id ∨ (nx ≤ id ∧ id < nx + 1)) w w' :=
  ⟨fun _ => Or.inl, fun _ hi => put_old μ p (fun e => hA (e ▸ hi)), h.bs⟩
theorem upKey_new (k : K) : upKey nx (nx + 1) [(nx, none, blk)] k ↔ k.1 = nx := by
  constructor
  · rintro (h | ⟨e, h, h2, h3⟩)
    · omega
    · simp at h; subst h; omega
  · intro h; exact Or.inl ⟨by omega, by omega⟩
theorem upVal_new (k : K) (h : k.1 = nx) : upVal [(nx, none, blk)] k = cof (fun _ => some blk) k := by
  simp [upVal, cof, upB, h]
theorem post_new (h : Pushed w w' o) (hA : ¬ A nx) (hv : VR (put μ nx (w.heap.size, 0)) (fun id => A id ∨ (nx ≤ id ∧ id < nx + 1)) w' v y)
    (hb : ∀ k c, k.1 = nx → cof (fun _ => some blk) k = some c → CR (put μ nx (w.heap.size, 0)) (fun id => A id ∨ (nx ≤ id ∧ id < nx + 1)) w' k c) :
    Post (cof acc) (upKey nx (nx + 1) [(nx, none, blk)]) (upVal [(nx, none, blk)]) v (fun id => A id ∨ (nx ≤ id ∧ id < nx + 1)) A μ (put μ nx (w.heap.size, 0)) w w' y := by
  refine ⟨h.le hA _, hv, ?_, ?_, ?_, h.fr _⟩
  · intro k c hk hc
    have e := (upKey_new k).1 hk
    rw [upVal_new k e] at hc
    exact ⟨Or.inr (by omega), hb k c e hc⟩
  · intro k k' c c' hk hk' _ _ hn
    exact absurd (((upKey_new k).1 hk).trans ((upKey_new k').1 hk').symm) hn
  · intro k c hk _ _
    have e := (upKey_new k).1 hk
    left
    rw [e, put_new]; exact Nat.le_refl _
end
theorem ofL_cons (v : V) (l : List V) (c : T V) (o : Nat) : ofL (v :: l) c o = gd v.one (ofL l (T.set c o v) (o + 1)) := by
  show gd v.one (c.setK o v fun c' => num (Nat.succ o) fun o' => ofL l c' o') = _
  rw [T.setK_eq, num_eq]
theorem ofL_some : ∀ {l : List V} {c c' : T V} {o : Nat}, ofL l c o = some c' → (∀ v ∈ l, v.one = true) ∧ ∀ j, c'.get j = if o ≤ j ∧ j < o + l.length then l[j - o]? else c.get j
  | [], c, c', o, h => by
    obtain rfl : c = c' := Option.some.inj h
    refine ⟨by simp, fun j => ?_⟩
    rw [if_neg (by simp)]
  | v :: l, c, c', o, h => by
    rw [ofL_cons] at h
    obtain ⟨h1, h2⟩ := gd_some.1 h
    obtain ⟨h3, h4⟩ := ofL_some h2
    refine ⟨fun u hu => ?_, fun j => ?_⟩
    · rcases List.mem_cons.1 hu with rfl | hu
      · exact h1
      · exact h3 u hu
    · rw [h4 j, T.get_set]
      simp only [List.length_cons]
      by_cases e : j = o
      · subst e
        rw [if_neg (by omega), if_pos rfl, if_pos (by omega)]; simp
      · by_cases e2 : o + 1 ≤ j ∧ j < o + 1 + l.length
        · rw [if_pos e2, if_pos (by omega), show j - o = (j - (o + 1)) + 1 by omega]; simp
        · rw [if_neg e2, if_neg (by omega), if_neg (by omega)]
theorem putC_cons (v : V) (l : List V) (c : T V) (o : Nat) : putC (v :: l) c o = gd v.one (ob (c.get o) fun _ => putC l (T.set c o v) (o + 1)) := by
  show gd v.one (ob (c.get o) fun _ => c.setK o v fun c' => num (Nat.succ o) fun o' => putC l c' o') = _
  simp only [T.setK_eq, num_eq]
theorem putC_some : ∀ {l : List V} {c c' : T V} {o : Nat}, putC l c o = some c' → (∀ v ∈ l, v.one = true) ∧ (∀ j, o ≤ j → j < o + l.length → c.get j ≠ none) ∧
    ∀ j, c'.get j = if o ≤ j ∧ j < o + l.length then l[j - o]? else c.get j
  | [], c, c', o, h => by
    obtain rfl : c = c' := Option.some.inj h
    refine ⟨by simp, fun j h1 h2 => by simp at h2; omega, fun j => ?_⟩
    rw [if_neg (by simp)]
  | v :: l, c, c', o, h => by
    rw [putC_cons] at h
    obtain ⟨h1, h2⟩ := gd_some.1 h
    obtain ⟨u, h0, h2⟩ := ob_some.1 h2
    obtain ⟨h3, h5, h4⟩ := putC_some h2
    refine ⟨fun u hu => ?_, fun j e1 e2 => ?_, fun j => ?_⟩
    · rcases List.mem_cons.1 hu with rfl | hu
      · exact h1
      · exact h3 u hu
    · by_cases e : j = o
      · subst e; rw [h0]; simp
      · have := h5 j (by omega) (by simp at e2; omega)
        rw [T.get_set, if_neg (fun e' => e e'.symm)] at this; exact this
    · rw [h4 j, T.get_set]
      simp only [List.length_cons]
      by_cases e : j = o
      · subst e
        rw [if_neg (by omega), if_pos rfl, if_pos (by omega)]; simp
      · by_cases e2 : o + 1 ≤ j ∧ j < o + 1 + l.length
        · rw [if_pos e2, if_pos (by omega), show j - o = (j - (o + 1)) + 1 by omega]; simp
        · rw [if_neg e2, if_neg (by omega), if_neg (by omega)]
section
variable {P : Program} {acc : Nat → Option Blk} {nx : Nat} {μ : Nat → Nat × Nat} {A : Nat → Prop} {w w' : World}
theorem bytesL_eq : ∀ l : List UInt8, l.map UInt8.toNat = bytesL l
  | [] => rfl
  | c :: l => by simp only [List.map_cons, bytesL, num_eq]; rw [bytesL_eq l]
theorem newP_some {l : List V} {k : V} {r : PR} (h : newP l nx k = some r) : ∃ c, r = .eff k [(nx, none, .cells l.length c)] (nx + 1) ∧ (∀ v ∈ l, v.one = true) ∧ ∀ j, c.get j = l[j]? := by
  obtain ⟨c, h1, h2⟩ := ob_some.1 h
  obtain ⟨h3, h4⟩ := ofL_some h1
  rw [num_eq, num_eq, len_eq] at h2
  cases h2
  refine ⟨c, by rfl, h3, fun j => ?_⟩
  rw [h4 j]
  by_cases e : (nat_lit 0) ≤ j ∧ j < (nat_lit 0) + l.length
  · rw [if_pos e]; rfl
  · rw [if_neg e, T.get_e]
    have : l.length ≤ j := by
      rcases Nat.lt_or_ge j l.length with h' | h'
      · exact absurd ⟨Nat.zero_le _, by rw [Nat.zero_add]; exact h'⟩ e
      · exact h'
    simp [this]
/-- A row of cells that has just been made reads as the values that were put there. -/
theorem newRow_reads {l : List V} {c : T V} {n : Nat} {cs : Array Value} {e : TypeId} (hp : Pushed w w' (.cells cs e)) (hA : ¬ A nx)
    (hone : ∀ v ∈ l, v.one = true) (hc : ∀ j, c.get j = l[j]?) (hv : ∃ rest, ∃ xs, cs.toList = xs ++ rest ∧ VRs μ A w l xs) :
    ∀ k x, k.1 = nx → cof (fun _ => some (.cells n c)) k = some x → CR (put μ nx (w.heap.size, 0)) (fun id => A id ∨ (nx ≤ id ∧ id < nx + 1)) w' k x := by
  rintro ⟨i, j⟩ x rfl hx
  simp only [cof, hc, Option.map_eq_some_iff] at hx
  obtain ⟨v, h1, rfl⟩ := hx
  obtain ⟨rest, xs, h2, h3⟩ := hv
  obtain ⟨y, h4, h5⟩ := VRs.nth j v h3 h1
  have hcell : cs[j]? = some y := by
    rw [← Array.getElem?_toList, h2, List.getElem?_append_left (List.getElem?_eq_some_iff.1 h4).1]; exact h4
  refine ⟨hone v (List.mem_of_getElem? h1), ?_, y, ?_, VR.up (hp.le hA _) _ _ h5⟩
  · intro o; simp [put_new, World.frozen?, hp.new]
  · simp [at_, put_new, World.cell?, hp.new, hcell]
theorem bsz_new {cs : Array Value} {e : TypeId} (hp : Pushed w w' (.cells cs e)) : bsz w' w.heap.size = cs.size := by unfold bsz; rw [hp.new]
/-- An operation that makes a row of cells. -/
theorem alloc_ok {f : Operand → Option V} {op : Op} {l : List V} {k : V} {r : PR} (h : newP l nx k = some r)
    (H : ∀ (μ : Nat → Nat × Nat) (A : Nat → Prop) (w : World) (ρ : Operand → Value) (o : Oper), o.op = op → (∀ x ∈ op.operands, ∀ u, f x = some u → VR μ A w u (ρ x)) →
      (∀ k c, cof acc k = some c → A k.1 ∧ k.1 < nx ∧ CR μ A w k c) → ∃ y w' cs e, (execOp ρ o).run P w = .ok (.value y) w' ∧ Pushed w w' (.cells cs e) ∧
        (∃ rest xs, cs.toList = xs ++ rest ∧ VRs μ A w l xs) ∧ (∀ (μ' : Nat → Nat × Nat) (A' : Nat → Prop), μ' nx = (w.heap.size, 0) → A' nx → VR μ' A' w' k y)) : PrimOK P f acc nx op r := by
  obtain ⟨c, rfl, h1, h2⟩ := newP_some h
  refine ⟨by omega, fun e he => ?_, fun μ A w ρ o ho hρ hacc _ hfr => ?_⟩
  · simp at he; subst he; exact Or.inl ⟨rfl, rfl, rfl⟩
  · obtain ⟨y, w', cs, e, e1, e2, e3, e4⟩ := H μ A w ρ o ho hρ hacc
    have hA : ¬ A nx := hfr nx (Nat.le_refl _) (by omega)
    exact ⟨y, w', put μ nx (w.heap.size, 0), Or.inl e1, post_new e2 hA (e4 _ _ (put_new _ _ _) (Or.inr (by omega))) (newRow_reads e2 hA h1 h2 e3)⟩
theorem scal_VR {x : Value} {v : V} (h : scal x = some v) : VR μ A w v x := by
  unfold scal at h
  split at h <;> first | (cases h; rfl) | (cases h; rename_i s; exact ⟨s, rfl, bytesL_eq _⟩) | cases h
theorem scals_VR : ∀ {l : List Value} {vs : List V}, scals l = some vs → VRs μ A w vs l
  | [], vs, h => by obtain rfl : [] = vs := Option.some.inj h; trivial
  | x :: l, vs, h => by
    obtain ⟨v, h1, h2⟩ := ob_some.1 h
    obtain ⟨us, h3, h4⟩ := ob_some.1 h2
    cases h4
    exact ⟨scal_VR h1, scals_VR h3⟩
theorem ofValue_VR {x : Value} {v : V} (h : ofValue x = some v) : VR μ A w v x := by
  unfold ofValue at h
  split at h
  · obtain ⟨l, h1, h2⟩ := ob_some.1 h
    cases h2
    exact ⟨_, rfl, scals_VR h1⟩
  · exact scal_VR h
theorem cells_VR {v : V} {x : Value} (h : VR μ A w v x) : VRs μ A w v.cells x.cells.toList := by
  cases v <;> first
    | (obtain ⟨cs, rfl, h2⟩ := h; exact h2)
    | (obtain ⟨cs, rfl, h2⟩ := h; exact ⟨⟨cs, rfl, h2⟩, trivial⟩)
    | (obtain ⟨y, rfl, h2⟩ := h; exact ⟨⟨y, rfl, h2⟩, trivial⟩)
    | (obtain ⟨ha, rfl⟩ := h; exact ⟨⟨ha, rfl⟩, trivial⟩)
    | (obtain ⟨ha, k, rfl, h2⟩ := h; exact ⟨⟨ha, k, rfl, h2⟩, trivial⟩)
    | (obtain ⟨a, k, rfl⟩ := h; exact ⟨⟨a, k, rfl⟩, trivial⟩)
    | (simp only [VR] at h; subst h; exact ⟨rfl, trivial⟩)
theorem zeroL_some {t : TypeId} {l : List V} (h : zeroL P t = some l) : ∃ i z, P.info? t = some i ∧ i.zero = some z ∧ ∀ (μ : Nat → Nat × Nat) (A : Nat → Prop) (w : World), VRs μ A w l z.cells.toList := by
  unfold zeroL at h
  split at h
  · rename_i i hi
    split at h
    · rename_i z hz
      split at h
      · rename_i v hv
        cases h
        exact ⟨i, z, hi, hz, fun μ A w => cells_VR (ofValue_VR hv)⟩
      · cases h
    · cases h
  · cases h
theorem run_zeroValue {t : TypeId} {i : TypeInfo} {z : Value} (h1 : P.info? t = some i) (h2 : i.zero = some z) (w1 : World) : (zeroValue t).run P w1 = .ok z w1 := by
  simp [zeroValue, typeInfo, h1, h2]
theorem pAlloc_ok {f : Operand → Option V} {e : TypeId} {r : PR} (h : pAlloc e P f acc nx = some r) : PrimOK P f acc nx (.alloc e) r := by
  obtain ⟨z, h1, h2⟩ := ob_some.1 h
  obtain ⟨i, zv, h3, h4, h5⟩ := zeroL_some h1
  refine alloc_ok h2 fun μ A w ρ o ho _ _ => ⟨.pointer (some ⟨w.heap.size, 0, none⟩), w.alloc (.cells zv.cells e), zv.cells, e, ?_, Pushed.alloc _ _, ⟨[], zv.cells.toList, by simp, h5 μ A w⟩, ?_⟩
  · obtain ⟨dst, op, ty, pos, after, guard⟩ := o
    simp only at ho; subst ho
    simp [execOp, Instr.alloc, run_zeroValue h3 h4, newVar, newRow]
  · intro μ' A' h6 h7; exact ⟨h7, by simp [h6]⟩
theorem pBox_ok {f : Operand → Option V} {e : TypeId} {x : Operand} {r : PR} (h : pBox x P f acc nx = some r) : PrimOK P f acc nx (.box e x) r := by
  obtain ⟨v, h1, h2⟩ := ob_some.1 h
  refine alloc_ok h2 fun μ A w ρ o ho hρ _ => ⟨.pointer (some ⟨w.heap.size, 0, none⟩), w.alloc (.cells (ρ x).cells e), (ρ x).cells, e, ?_, Pushed.alloc _ _, ⟨[], (ρ x).cells.toList, by simp, cells_VR (hρ x (by simp [Op.operands]) v h1)⟩, ?_⟩
  · obtain ⟨dst, op, ty, pos, after, guard⟩ := o
    simp only at ho; subst ho
    simp [execOp, Instr.box, newVar, newRow]
  · intro μ' A' h6 h7; exact ⟨h7, by simp [h6]⟩
end
end Go.X
