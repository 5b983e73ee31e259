/- A region in the order of its text. -/
import Derived.Test.YtgkdmkjfcmilgaaGreatDoorXs
set_option linter.unusedVariables false
set_option linter.unusedSimpArgs false
namespace Go.X
/-- Every block that is told of bears a number below the next. -/
def Dom (h : T Blk) (nx : Nat) : Prop := ∀ k c, cof h.get k = some c → k.1 < nx
section
variable {P : Program} {ops : Array Oper} {G N : Nat} {μ : Nat → Nat × Nat} {A : Nat → Prop} {w : World} {a : Act}
theorem ev_VR {t : T V} {x : Operand} {v : V} (h : ev G t x = some v) (hG : ∀ g, g < G → A g ∧ μ g = (g, 0)) (ht : ∀ i u, x = .tmp i → t.get i = some u → VR μ A w u (a.tmps.getD i undef)) : VR μ A w v (a.eval x) := by
  cases x with
  | tmp i => exact ht i v rfl h
  | const c => exact ofValue_VR h
  | global g =>
    obtain ⟨h1, h2⟩ := gd_some.1 h
    cases h2
    rw [nblt] at h1; simp only [decide_eq_true_eq] at h1
    obtain ⟨h3, h4⟩ := hG g h1
    exact ⟨h3, by rw [h4]; rfl⟩
  | func f =>
    cases h
    exact ⟨#[], rfl, trivial⟩
theorem tmp_looks {o : Oper} {i : Nat} (h : Operand.tmp i ∈ o.op.operands) : i ∈ o.looksAt ops :=
  List.mem_append_left _ (List.mem_filterMap.2 ⟨.tmp i, by simpa using h, rfl⟩)
theorem eqB_eq (x y : Bool) : eqB x y = (x == y) := by cases x <;> cases y <;> rfl
theorem want_sound {t : T V} {o : Oper} {b : Bool} (h : want ops t o = some b) (ht : ∀ i u, i ∈ o.looksAt ops → t.get i = some u → VR μ A w u (a.tmps.getD i undef)) :
    Region.wanted o (yielded ops a.tmps) = b := by
  unfold want at h
  unfold Region.wanted
  cases hg : o.guard with
  | none => rw [hg] at h; exact Option.some.inj h
  | some g =>
    obtain ⟨j, q⟩ := g
    rw [hg] at h
    obtain ⟨d, h1, h2⟩ := ob_some.1 h
    obtain ⟨v, h3, h4⟩ := ob_some.1 h2
    have hv := ht d v (List.mem_append_right _ (by rw [hg]; simp [h1])) h3
    simp only [yielded, h1, Option.bind_some]
    rw [Array.getD_eq_getD_getElem?] at hv
    cases hb : asBool v with
    | some c =>
      rw [hb] at h4
      simp only at h4
      have := asBool_some hb; subst this
      have hv' : a.tmps[d]?.getD undef = .bool c := hv
      cases e : a.tmps[d]? with
      | none => rw [e] at hv'; cases hv'
      | some y =>
        rw [e] at hv'
        simp only [Option.getD_some] at hv'; subst hv'
        rw [← Option.some.inj h4, eqB_eq]
        cases c <;> cases q <;> rfl
    | none =>
      rw [hb] at h4
      simp only at h4
      obtain ⟨h5, h6⟩ := gd_some.1 h4
      cases h6
      have hnb : ∀ c, a.tmps[d]? ≠ some (.bool c) := by
        intro c e
        rw [e] at hv
        cases v <;> first
          | (cases h5; done)
          | (obtain ⟨cs, h, _⟩ := hv; cases h)
      cases e : a.tmps[d]? with
      | none => rfl
      | some y => cases y <;> first | rfl | exact absurd e (hnb _)
/-- An operation that is not wanted leaves nothing. -/
theorem OpSound.skip {o : Oper} {i : Nat} {t : T V} {τ : Nat → Option V} {nx : Nat} {acc : K → Option Cell} {val : K → Option Cell} {key : K → Prop} (hi : ops[i]? = some o) (hτ : ∀ i u, t.get i = some u → τ i = some u) (h : want ops t o = some false) (hkey : ∀ k, ¬ key k) :
    OpSound P ops N i o G τ acc key val (.tup []) nx nx := by
  intro μ A w a Q K' hd hs hG htm hacc hinj hfr hK
  have hw := want_sound h (fun j u hj hu => htm j u hj (hτ j u hu))
  unfold wpOp
  simp only [hi, hw, Bool.false_eq_true, if_false]
  have hle : Le μ μ A (fun id => A id ∨ (nx ≤ id ∧ id < nx)) w w := ⟨fun _ => Or.inl, fun _ _ => rfl, fun _ => Nat.le_refl _⟩
  exact hK undef w μ ⟨hle, ⟨#[], rfl, trivial⟩, fun k c h => absurd h (hkey k), fun k k' c c' h => absurd h (hkey k), fun k c h => absurd h (hkey k), Fr.refl _ _⟩
/-- An operation that calls no function of the program. -/
theorem OpSound.prim {o : Oper} {i : Nat} {t : T V} {τ : Nat → Option V} {nx nx' : Nat} {acc : Nat → Option Blk} {v : V} {upd : List Up} (hi : ops[i]? = some o) (hτ : ∀ i u, t.get i = some u → τ i = some u)
    (h : want ops t o = some true) (hok : PrimOK1 P (ev G t) acc nx o.op v upd nx') (hdom : ∀ k c, cof acc k = some c → k.1 < nx) :
    OpSound P ops N i o G τ (cof acc) (upKey nx nx' upd) (upVal upd) v nx nx' := by
  intro μ A w a Q K' hd hs hG htm hacc hinj hfr hK
  have hw := want_sound h (fun j u hj hu => htm j u hj (hτ j u hu))
  unfold wpOp
  simp only [hi, hw, if_true]
  left
  obtain ⟨y, w', μ', h1, h2⟩ := hok.2.2 μ A w a.eval o rfl (fun x hx u hu => ev_VR hu hG fun j q e hq => htm j q (tmp_looks (e ▸ hx)) (hτ j q hq))
    (fun k c hk => ⟨(hacc k c hk).1, hdom k c hk, (hacc k c hk).2⟩) hinj hfr
  unfold Oper.wp
  rcases h1 with h1 | ⟨h1, rfl⟩
  · rw [h1]; exact hK y w' μ' h2
  · rw [h1]; exact hK undef w' μ' h2
end
/-! Calls. -/
def callKey (nx : Nat) (r : Ans) (k : K) : Prop := (nx ≤ k.1 ∧ k.1 < r.nx) ∨ k.1 ∈ r.tch
structure CallPure (h : T Blk) (nx : Nat) (r : Ans) : Prop where
  le : nx ≤ r.nx
  dom : Dom r.h r.nx
  same : ∀ k, ¬ callKey nx r k → cof r.h.get k = cof h.get k
  tch : ∀ t ∈ r.tch, t < nx ∧ ∃ j, cof h.get (t, j) ≠ none
def CallSem (P : Program) (G : Nat) (g : FuncId) (args : List V) (h : T Blk) (nx : Nat) (r : Ans) : Prop :=
  ∀ (μ : Nat → Nat × Nat) (A : Nat → Prop) (w : World) (xs : List Value), VRs μ A w args xs → (∀ k c, cof h.get k = some c → A k.1 ∧ CR μ A w k c) →
    (∀ k k' c c', cof h.get k = some c → cof h.get k' = some c' → k.1 ≠ k'.1 → (μ k.1).1 ≠ (μ k'.1).1) → (∀ g, g < G → A g ∧ μ g = (g, 0)) → (∀ id, nx ≤ id → id < r.nx → ¬ A id) →
    Calls P g xs.toArray w fun e w' => ∃ y μ', e = .returned y ∧ Post (cof h.get) (callKey nx r) (cof r.h.get) r.v (fun id => A id ∨ (nx ≤ id ∧ id < r.nx)) A μ μ' w w' y
/-- A way to answer calls that is right. -/
def CallOK (P : Program) (G : Nat) (call : CallT) : Prop := ∀ g args h nx r, call g args h nx = .ok r → (∃ F c, P.funcs[g]? = some F ∧ F.body = some c) ∧ (Dom h nx → CallPure h nx r ∧ CallSem P G g args h nx r)
section
variable {P : Program} {ops : Array Oper} {G N : Nat}
/-- A call of a function of the program. -/
theorem OpSound.call {o : Oper} {i : Nat} {t : T V} {τ : Nat → Option V} {nx : Nat} {h : T Blk} {fo : Operand} {args : List Operand} {g : FuncId} {caps vs : List V} {r : Ans}
    (hbody : ∀ (g : FuncId) (F : Func), P.funcs[g]? = some F → (F.name == "runtime.NumGoroutine") = false) (hi : ops[i]? = some o) (hτ : ∀ i u, t.get i = some u → τ i = some u)
    (hw : want ops t o = some true) (hd : dsp o.op = .call fo args) (hf : ev G t fo = some (.fn g caps)) (ha : evs (ev G t) args = some vs) (hg : ∃ F c, P.funcs[g]? = some F ∧ F.body = some c) (hs : CallSem P G g (vs ++ caps) h nx r) :
    OpSound P ops N i o G τ (cof h.get) (callKey nx r) (cof r.h.get) r.v nx r.nx := by
  intro μ A w a Q K' hdf hsz hG htm hacc hinj hfr hK
  have hwt := want_sound hw (fun j u hj hu => htm j u hj (hτ j u hu))
  unfold wpOp
  simp only [hi, hwt, if_true]
  left
  obtain ⟨c, hc1, hc2, hc3⟩ := dsp_call hd
  have hmem : ∀ x, (x = fo ∨ x ∈ args) → x ∈ o.op.operands := by
    intro x hx
    rw [hc1]
    simp only [Op.operands, Call.operands, hc2]
    rcases hx with rfl | hx
    · simp
    · have : x ∈ c.args := by rw [← Array.mem_toList_iff, hc3]; exact hx
      simp [this]
  have hev : ∀ x, x ∈ o.op.operands → ∀ u, ev G t x = some u → VR μ A w u (a.eval x) := fun x hx u hu => ev_VR hu hG fun j q e hq => htm j q (tmp_looks (e ▸ hx)) (hτ j q hq)
  obtain ⟨cs, hfe, hcaps⟩ := hev fo (hmem fo (Or.inl rfl)) _ hf
  have hvs := evs_VR ha (fun x hx => hev x (hmem x (Or.inr hx)))
  have hcall := hs μ A w (args.map a.eval ++ cs.toList) (VRs.app hvs hcaps) hacc hinj hG hfr
  obtain ⟨F, cb, hF, hFb⟩ := hg
  have harr : (args.map a.eval ++ cs.toList).toArray = c.args.map a.eval ++ cs := by
    rw [← hc3, ← Array.toList_inj]; simp
  rw [harr] at hcall
  have hrun : (execOp a.eval o).run P w = .ok (.enter g (c.args.map a.eval ++ cs)) w := by
    obtain ⟨dst, op, ty, pos, after, guard⟩ := o
    simp only at hc1; subst hc1
    have hnm : ¬ F.name = "runtime.NumGoroutine" := by have := hbody g F hF; simpa using this
    simp [execOp, resolve, hc2, hfe, Deferred.ofValue, invoke, callFunc, hF, hnm, hFb]
  unfold Oper.wp
  rw [hrun]
  refine Calls.mono hcall fun e w' ⟨y, μ', he, hp⟩ => ?_
  subst he
  exact hK y w' μ' hp
/-! The state. -/
/-- What holds of a state alone: since the function was entered with heap `h0`. -/
structure PInv (h0 : T Blk) (base : Nat) (h : T Blk) (nx : Nat) (tch : List Nat) : Prop where
  le : base ≤ nx
  dom : Dom h nx
  same : ∀ k, k.1 < base → k.1 ∉ tch → cof h.get k = cof h0.get k
  tch : ∀ t ∈ tch, t < base ∧ ∃ j, cof h0.get (t, j) ≠ none
/-- What holds of a state and the model's. -/
def SInv (μ0 : Nat → Nat × Nat) (A0 : Nat → Prop) (w0 : World) (base N : Nat) (t : T V) (h : T Blk) (nx : Nat) (tch : List Nat) (a : Act) (w : World) : Prop :=
  ∃ μ, Inv μ0 A0 w0 base N tch t.get (cof h.get) (fun id => A0 id ∨ (base ≤ id ∧ id < nx)) μ a w
theorem memB_eq (i : Nat) : ∀ l : List Nat, memB i l = true ↔ i ∈ l
  | [] => by simp [memB]
  | j :: l => by
    show ib (Nat.beq i j) true (memB i l) = true ↔ _
    rw [ib_eq, nbeq]
    by_cases e : i = j
    · simp [e]
    · simp [e, memB_eq i l]
/-- The blocks turned, with those that were there before among them. -/
def adds (base : Nat) : List Nat → List Nat → List Nat
  | [], l => l
  | i :: is, l => if i < base then (if i ∈ l then adds base is l else adds base is (i :: l)) else adds base is l
theorem addsK_eq {β : Type} (base : Nat) : ∀ (is l : List Nat) (k : List Nat → β), addsK base is l k = k (adds base is l)
  | [], _, _ => rfl
  | i :: is, l, k => by
    show ib (Nat.blt i base) (ib (memB i l) (addsK base is l k) (addsK base is (i :: l) k)) (addsK base is l k) = _
    rw [addsK_eq base is, addsK_eq base is, ib_eq, ib_eq, nblt, adds]
    simp only [decide_eq_true_eq, memB_eq]
    split <;> (try split) <;> rfl
theorem mem_adds {base : Nat} : ∀ {is l : List Nat} {i : Nat}, i ∈ adds base is l ↔ i ∈ l ∨ (i ∈ is ∧ i < base)
  | [], l, i => by simp [adds]
  | j :: is, l, i => by
    unfold adds
    split
    · rename_i h
      split
      · rename_i h2
        rw [mem_adds]; simp
        constructor
        · rintro (q | q) <;> simp [q]
        · rintro (q | ⟨rfl | q, q2⟩)
          · exact Or.inl q
          · exact Or.inl h2
          · exact Or.inr ⟨q, q2⟩
      · rw [mem_adds]; simp
        constructor
        · rintro ((rfl | q) | q)
          · exact Or.inr ⟨Or.inl rfl, h⟩
          · exact Or.inl q
          · exact Or.inr ⟨Or.inr q.1, q.2⟩
        · rintro (q | ⟨rfl | q, q2⟩)
          · exact Or.inl (Or.inr q)
          · exact Or.inl (Or.inl rfl)
          · exact Or.inr ⟨q, q2⟩
    · rename_i h
      rw [mem_adds]; simp
      constructor
      · rintro (q | q) <;> simp [q]
      · rintro (q | ⟨rfl | q, q2⟩)
        · exact Or.inl q
        · exact absurd q2 h
        · exact Or.inr ⟨q, q2⟩
theorem oldIds_cons (nx : Nat) (e : Up) (l : List Up) : oldIds nx (e :: l) = if e.1 < nx then e.1 :: oldIds nx l else oldIds nx l := by
  show ib (Nat.blt e.1 nx) (e.1 :: oldIds nx l) (oldIds nx l) = _
  rw [ib_eq, nblt]; simp
theorem mem_oldIds {nx i : Nat} : ∀ {u : List Up}, i ∈ oldIds nx u ↔ ∃ e ∈ u, e.1 = i ∧ i < nx
  | [] => by simp [oldIds]
  | e :: u => by
    rw [oldIds_cons]
    split
    · rename_i h
      simp only [List.mem_cons, mem_oldIds]
      constructor
      · rintro (rfl | ⟨e', h1, h2⟩)
        · exact ⟨e, Or.inl rfl, rfl, h⟩
        · exact ⟨e', Or.inr h1, h2⟩
      · rintro ⟨e', rfl | h1, h2, h3⟩
        · exact Or.inl h2.symm
        · exact Or.inr ⟨e', h1, h2, h3⟩
    · rename_i h
      simp only [mem_oldIds, List.mem_cons]
      constructor
      · rintro ⟨e', h1, h2⟩; exact ⟨e', Or.inr h1, h2⟩
      · rintro ⟨e', rfl | h1, h2, h3⟩
        · exact absurd (h2 ▸ h3) h
        · exact ⟨e', h1, h2, h3⟩
/-- The heap with blocks told anew. -/
def upds : List Up → T Blk → T Blk
  | [], h => h
  | e :: l, h => upds l (T.set h e.1 e.2.2)
theorem updK_eq {β : Type} : ∀ (u : List Up) (h : T Blk) (k : T Blk → β), updK u h k = k (upds u h)
  | [], _, _ => rfl
  | (i, g, b) :: l, h, k => by
    show h.setK i b (fun h' => updK l h' k) = _
    rw [T.setK_eq, updK_eq l]; rfl
theorem upds_get : ∀ (u : List Up) (h : T Blk) (id : Nat), (upds u h).get id = match upB u id with | some b => some b | none => h.get id
  | [], _, _ => rfl
  | (i, g, b) :: l, h, id => by
    rw [upds, upds_get l, upB, T.get_set]
    cases upB l id with
    | some x => rfl
    | none => by_cases e : i = id <;> simp [e]
theorem upB_some : ∀ {u : List Up} {id : Nat} {b : Blk}, upB u id = some b → ∃ e ∈ u, e.1 = id ∧ e.2.2 = b
  | [], _, _, h => by cases h
  | (i, g, c) :: l, id, b, h => by
    simp only [upB] at h
    cases hx : upB l id with
    | some x =>
      rw [hx] at h; cases h
      obtain ⟨e, h1, h2⟩ := upB_some hx
      exact ⟨e, by simp [h1], h2⟩
    | none =>
      rw [hx] at h
      by_cases e : i = id
      · simp [e] at h; subst h; exact ⟨(i, g, c), by simp, e, rfl⟩
      · simp [e] at h
theorem putK_ok {γ : Type} {s : String} {dst : Option Tmp} {v : V} {t : T V} {k : T V → R γ} {r : γ} (h : putK s dst N v t k = .ok r) :
    ∃ t', k t' = .ok r ∧ (∀ d, dst = some d → d < N) ∧ ∀ i u, t'.get i = some u → (dst = some i ∧ u = v) ∨ (dst ≠ some i ∧ t.get i = some u) := by
  cases dst with
  | none => exact ⟨t, h, (fun d hd => by cases hd), fun i u hu => Or.inr ⟨by simp, hu⟩⟩
  | some d =>
    have h' : ib (Nat.blt d N) (t.setK d v k) (.no s 10) = .ok r := h
    rw [ib_eq, nblt] at h'
    by_cases e : d < N
    · simp only [e, decide_true, if_true] at h'
      rw [T.setK_eq] at h'
      refine ⟨T.set t d v, h', (fun d' hd => by cases hd; exact e), fun i u hu => ?_⟩
      rw [T.get_set] at hu
      by_cases e2 : d = i
      · rw [if_pos e2] at hu; exact Or.inl ⟨by rw [e2], (Option.some.inj hu).symm⟩
      · rw [if_neg e2] at hu; exact Or.inr ⟨fun e3 => e2 (Option.some.inj e3), hu⟩
    · simp only [e, decide_false, Bool.false_eq_true, if_false] at h'
      cases h'
end
end Go.X
