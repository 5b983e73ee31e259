/- What the executor says of one operation is what the model does: every operation that calls no function of the program. -/
import Derived.Test.YtgkdmkjfcmilgaaGreatDoorXr
set_option linter.unusedVariables false
set_option linter.unusedSimpArgs false
namespace Go.X
section
variable {P : Program} {f : Operand → Option V} {acc : Nat → Option Blk} {nx : Nat} {r : PR}
theorem run_call_builtin {b : Builtin} {c : Call} {ρ : Operand → Value} {o : Oper} (ho : o.op = .call c) (h1 : c.callee = .builtin b) :
    execOp ρ o = builtin b c.argTypes o.type (c.args.map fun | .const _ => true | _ => false) (c.args.map ρ) := by
  obtain ⟨dst, op, ty, pos, after, guard⟩ := o
  obtain ⟨callee, args, argTypes⟩ := c
  simp only at ho h1; subst ho; subst h1
  rfl
theorem mem_call {c : Call} {b : Builtin} (h1 : c.callee = .builtin b) {x : Operand} (h : x ∈ c.args.toList) : x ∈ (Op.call c).operands := by
  simp only [Op.operands, Call.operands, h1]
  have : x ∈ c.args := by rw [← Array.mem_toList_iff]; exact h
  simpa using this
theorem pLen_ok {c : Call} {x : Operand} (hc1 : c.callee = .builtin .len) (hc2 : c.args.toList = [x]) (h : pLen c.argTypes.toList x P f acc nx = some r) : PrimOK P f acc nx (.call c) r := by
  unfold pLen at h
  split at h
  case h_2 => cases h
  case h_1 ts t hts =>
  obtain ⟨v, h1, h2⟩ := ob_some.1 h
  obtain ⟨u, h3, rfl⟩ := pv_some h2
  have e1 : c.args = #[x] := by rw [← Array.toList_inj]; exact hc2
  have e2 : c.argTypes = #[t] := by rw [← Array.toList_inj]; exact hts
  refine PrimOK.of_pure fun μ A w ρ o ho hρ _ => ?_
  have hx := hρ x (mem_call hc1 (by rw [hc2]; simp)) _ h1
  have hrun : (execOp ρ o).run P w = ((Builtin.len_ #[t] o.type #[ρ x]).run P w).andThen fun v w2 => .ok (.value v) w2 := by
    rw [run_call_builtin ho hc1, e1, e2]; simp [builtin]
  rw [hrun]
  simp only [lenP, ib_eq] at h3
  split at h3
  · rename_i hs
    have hu := isStr_true hs
    obtain ⟨l, h4, h5⟩ := ob_some.1 h3
    have := asStr_some h4; subst this
    rw [num_eq] at h5; cases h5
    obtain ⟨s, hxe, hl⟩ := VR.str_iff hx
    have hlen : l.length = s.size := by rw [← hl]; simp
    exact ⟨.int .i64 s.size, by simp [Builtin.len_, run_underlying' hu, hxe, goInt], by rw [hlen]; rfl⟩
  · obtain ⟨e, h4, h5⟩ := ob_some.1 h3
    have hu := elemOf'_some h4
    split at h5 <;> first | (cases h5; done) | skip
    · cases h5
      obtain ⟨_, kc, hxe, _⟩ := hx
      exact ⟨_, by simp [Builtin.len_, run_underlying' hu, hxe, goInt], rfl⟩
    · cases h5
      have hxe : ρ x = .slice none 0 0 := hx
      exact ⟨_, by simp [Builtin.len_, run_underlying' hu, hxe, goInt], rfl⟩
    · cases h5
      obtain ⟨a, kc, hxe⟩ := hx
      exact ⟨_, by simp [Builtin.len_, run_underlying' hu, hxe, goInt], rfl⟩
theorem maxP_sound {μ : Nat → Nat × Nat} {A : Nat → Prop} {w : World} : ∀ {l : List V} {x u : V} {ys : List Value} {y : Value}, maxP x l = some u → VR μ A w x y → VRs μ A w l ys →
    ∃ z, (ys.foldlM Builtin.max2 y).run P w = .ok z w ∧ VR μ A w u z
  | [], x, u, [], y, h, hx, _ => by obtain rfl : x = u := Option.some.inj h; exact ⟨y, rfl, hx⟩
  | [], _, _, _ :: _, _, _, _, h => h.elim
  | _ :: _, _, _, [], _, _, _, h => h.elim
  | v :: l, x, u, y1 :: ys, y, h, hx, hl => by
    simp only [VRs] at hl
    obtain ⟨k, a, h1, h2⟩ := ob2_some.1 h
    obtain ⟨k', b, h3, h4⟩ := ob2_some.1 h2
    have := asInt_some h1; subst this
    have := asInt_some h3; subst this
    have e1 : y = .int k a := hx
    have e2 : y1 = .int k' b := hl.1
    subst e1; subst e2
    rw [ib_eq, ile_eq] at h4
    by_cases e : b ≤ a
    · simp only [e, decide_true, if_true] at h4
      obtain ⟨z, q1, q2⟩ := maxP_sound (ys := ys) (y := .int k a) h4 rfl hl.2
      exact ⟨z, by simp only [List.foldlM_cons, Sem.run_bind, Builtin.max2, if_neg (show ¬ b > a by omega), Sem.run_pure, Result.andThen_ok]; exact q1, q2⟩
    · simp only [e, decide_false, Bool.false_eq_true, if_false] at h4
      obtain ⟨z, q1, q2⟩ := maxP_sound (ys := ys) (y := .int k b) h4 rfl hl.2
      exact ⟨z, by simp only [List.foldlM_cons, Sem.run_bind, Builtin.max2, if_pos (show b > a by omega), Sem.run_pure, Result.andThen_ok]; exact q1, q2⟩
theorem minP_sound {μ : Nat → Nat × Nat} {A : Nat → Prop} {w : World} : ∀ {l : List V} {x u : V} {ys : List Value} {y : Value}, minP x l = some u → VR μ A w x y → VRs μ A w l ys →
    ∃ z, (ys.foldlM Builtin.min2 y).run P w = .ok z w ∧ VR μ A w u z
  | [], x, u, [], y, h, hx, _ => by obtain rfl : x = u := Option.some.inj h; exact ⟨y, rfl, hx⟩
  | [], _, _, _ :: _, _, _, _, h => h.elim
  | _ :: _, _, _, [], _, _, _, h => h.elim
  | v :: l, x, u, y1 :: ys, y, h, hx, hl => by
    simp only [VRs] at hl
    obtain ⟨k, a, h1, h2⟩ := ob2_some.1 h
    obtain ⟨k', b, h3, h4⟩ := ob2_some.1 h2
    have := asInt_some h1; subst this
    have := asInt_some h3; subst this
    have e1 : y = .int k a := hx
    have e2 : y1 = .int k' b := hl.1
    subst e1; subst e2
    rw [ib_eq, ile_eq] at h4
    by_cases e : a ≤ b
    · simp only [e, decide_true, if_true] at h4
      obtain ⟨z, q1, q2⟩ := minP_sound (ys := ys) (y := .int k a) h4 rfl hl.2
      exact ⟨z, by simp only [List.foldlM_cons, Sem.run_bind, Builtin.min2, if_neg (show ¬ b < a by omega), Sem.run_pure, Result.andThen_ok]; exact q1, q2⟩
    · simp only [e, decide_false, Bool.false_eq_true, if_false] at h4
      obtain ⟨z, q1, q2⟩ := minP_sound (ys := ys) (y := .int k b) h4 rfl hl.2
      exact ⟨z, by simp only [List.foldlM_cons, Sem.run_bind, Builtin.min2, if_pos (show b < a by omega), Sem.run_pure, Result.andThen_ok]; exact q1, q2⟩
theorem pMax_ok {c : Call} {x : Operand} {l : List Operand} (hc1 : c.callee = .builtin .max) (hc2 : c.args.toList = x :: l) (h : pMax x l P f acc nx = some r) : PrimOK P f acc nx (.call c) r := by
  obtain ⟨v, h1, h2⟩ := ob_some.1 h
  obtain ⟨vs, h3, h4⟩ := ob_some.1 h2
  obtain ⟨u, h5, rfl⟩ := pv_some h4
  refine PrimOK.of_pure fun μ A w ρ o ho hρ _ => ?_
  have hx := hρ x (mem_call hc1 (by rw [hc2]; simp)) _ h1
  have hl := evs_VR (μ := μ) (A := A) (w := w) (ρ := ρ) h3 (fun y hy => hρ y (mem_call hc1 (by rw [hc2]; simp [hy])))
  obtain ⟨z, q1, q2⟩ := maxP_sound (P := P) h5 hx hl
  refine ⟨z, ?_, q2⟩
  have e : (c.args.map ρ).toList = ρ x :: l.map ρ := by rw [Array.toList_map, hc2]; rfl
  rw [run_call_builtin ho hc1]
  simp only [builtin, Builtin.max_, e, Sem.run_bind, q1, Result.andThen_ok, Sem.run_pure]
theorem pMin_ok {c : Call} {x : Operand} {l : List Operand} (hc1 : c.callee = .builtin .min) (hc2 : c.args.toList = x :: l) (h : pMin x l P f acc nx = some r) : PrimOK P f acc nx (.call c) r := by
  obtain ⟨v, h1, h2⟩ := ob_some.1 h
  obtain ⟨vs, h3, h4⟩ := ob_some.1 h2
  obtain ⟨u, h5, rfl⟩ := pv_some h4
  refine PrimOK.of_pure fun μ A w ρ o ho hρ _ => ?_
  have hx := hρ x (mem_call hc1 (by rw [hc2]; simp)) _ h1
  have hl := evs_VR (μ := μ) (A := A) (w := w) (ρ := ρ) h3 (fun y hy => hρ y (mem_call hc1 (by rw [hc2]; simp [hy])))
  obtain ⟨z, q1, q2⟩ := minP_sound (P := P) h5 hx hl
  refine ⟨z, ?_, q2⟩
  have e : (c.args.map ρ).toList = ρ x :: l.map ρ := by rw [Array.toList_map, hc2]; rfl
  rw [run_call_builtin ho hc1]
  simp only [builtin, Builtin.min_, e, Sem.run_bind, q1, Result.andThen_ok, Sem.run_pure]
theorem pBuiltin_ok {c : Call} {b : Builtin} (hc1 : c.callee = .builtin b) (h : pBuiltin b c.argTypes.toList c.args.toList P f acc nx = some r) : PrimOK P f acc nx (.call c) r := by
  generalize hargs : c.args.toList = xs at h
  unfold pBuiltin at h
  split at h
  · exact pLen_ok hc1 hargs h
  · exact pAppend_ok hc1 hargs h
  · exact pMax_ok hc1 hargs h
  · exact pMin_ok hc1 hargs h
  · cases h
theorem prim_ok : ∀ {op : Op}, (∀ c, op ≠ .call c) → prim op P f acc nx = some r → PrimOK P f acc nx op r := by
  intro op hn h
  cases op with
  | move x => exact pMove_ok h
  | assign x => exact pAssign_ok h
  | pick c a b => exact pPick_ok h
  | alloc e => exact pAlloc_ok h
  | box e x => exact pBox_ok h
  | build t ps => exact pBuild_ok h
  | buildSlice t n ps => exact pBuildSlice_ok h
  | load t a => exact pLoad_ok h
  | store t a x => exact pStore_ok h
  | nilCheck x => exact pNilCheck_ok h
  | binOp op t x y ty => exact pBin_ok h
  | unOp op t x => exact pUn_ok h
  | convert s d x => exact pConvert_ok h
  | makeFunc fn a b => exact pMakeFunc_ok h
  | makeMap t q => exact pMakeMap_ok h
  | makeSlice t l c => exact pMakeSlice_ok h
  | slice t x lo hi mx => exact pSlice_ok h
  | fieldAddr s x i => exact pFieldAddr_ok h
  | field s x i => exact pField_ok h
  | indexAddr t x i => exact pIndexAddr_ok h
  | index t x i => exact pIndex_ok h
  | mapUpdate t m k v => exact pMapUpdate_ok h
  | extract x i => exact pExtract_ok h
  | call c => exact absurd rfl (hn c)
  | _ => cases h
theorem dsp_prim {op : Op} {p : Prim} (hd : dsp op = .prim p) (h : p P f acc nx = some r) : PrimOK P f acc nx op r := by
  unfold dsp at hd
  split at hd
  · rename_i c
    unfold dspCall at hd
    split at hd
    · cases hd
    · rename_i b hb
      cases hd
      exact pBuiltin_ok hb h
    · cases hd; cases h
  · rename_i hn
    cases hd
    exact prim_ok (fun c e => hn c e) h
theorem dsp_call {op : Op} {fo : Operand} {args : List Operand} (hd : dsp op = .call fo args) : ∃ c, op = .call c ∧ c.callee = .value fo ∧ c.args.toList = args := by
  unfold dsp at hd
  split at hd
  · rename_i c
    unfold dspCall at hd
    split at hd
    · rename_i fo' hb
      cases hd
      exact ⟨c, rfl, hb, rfl⟩
    · cases hd
    · cases hd
  · cases hd
end
end Go.X
