/- What the executor says of one operation is what the model does: places, parts, slices. -/
import Derived.Test.YtgkdmkjfcmilgaaGreatDoorXk
import Derived.Laws.Slices
set_option linter.unusedVariables false
set_option linter.unusedSimpArgs false
namespace Go.X
section
variable {P : Program} {f : Operand → Option V} {acc : Nat → Option Blk} {nx : Nat} {r : PR} {μ : Nat → Nat × Nat} {A : Nat → Prop} {w : World}
theorem ptrTo_eq (b o : Nat) : ptrTo b o = some (.ptr b o) := num_eq _ _
theorem evs_VR {ρ : Operand → Value} : ∀ {l : List Operand} {vs : List V}, evs f l = some vs → (∀ x ∈ l, ∀ u, f x = some u → VR μ A w u (ρ x)) → VRs μ A w vs (l.map ρ)
  | [], vs, h, _ => by obtain rfl : [] = vs := Option.some.inj h; trivial
  | x :: l, vs, h, hρ => by
    obtain ⟨v, h1, h2⟩ := ob_some.1 h
    obtain ⟨us, h3, h4⟩ := ob_some.1 h2
    cases h4
    exact ⟨hρ x (by simp) v h1, evs_VR h3 fun y hy => hρ y (by simp [hy])⟩
theorem pMakeFunc_ok {fn : Fn} {first caps : Array Operand} (h : pMakeFunc fn first caps P f acc nx = some r) : PrimOK P f acc nx (.makeFunc fn first caps) r := by
  cases fn with
  | func g =>
    cases hf : first.toList with
    | cons a b => simp only [pMakeFunc, hf] at h; cases h
    | nil =>
      simp only [pMakeFunc, hf] at h
      obtain ⟨l, h1, h2⟩ := ob_some.1 h
      cases h2
      have hf' : first = #[] := by rw [← Array.toList_inj]; exact hf
      subst hf'
      refine PrimOK.of_pure fun μ A w ρ o ho hρ _ => ⟨.func (.func g) #[] (caps.map ρ), ?_, caps.map ρ, rfl, ?_⟩
      · obtain ⟨dst, op, ty, pos, after, guard⟩ := o
        simp only at ho; subst ho; simp [execOp, Instr.makeFunc]
      · rw [Array.toList_map]; exact evs_VR h1 fun x hx => hρ x (by simp [Op.operands]; simpa using hx)
  | _ => cases h
theorem pMakeMap_ok {t : TypeId} {q : Option Operand} (h : pMakeMap q P f acc nx = some r) : PrimOK P f acc nx (.makeMap t q) r := by
  cases q with
  | some _ => cases h
  | none =>
    simp only [pMakeMap, num_eq] at h
    cases h
    refine ⟨by omega, fun e he => ?_, fun μ A w ρ o ho hρ hacc _ hfr => ?_⟩
    · simp at he; subst he; exact Or.inl ⟨rfl, rfl, rfl⟩
    · have hA : ¬ A nx := hfr nx (Nat.le_refl _) (by omega)
      have hp := Pushed.alloc w (.map #[] 0)
      refine ⟨.map (some w.heap.size), w.alloc (.map #[] 0), put μ nx (w.heap.size, 0), Or.inl ?_, post_new hp hA ⟨Or.inr (by omega), by simp [put_new]⟩ ?_⟩
      · obtain ⟨dst, op, ty, pos, after, guard⟩ := o
        simp only at ho; subst ho; simp [execOp, Instr.makeMap]
      · rintro ⟨i, j⟩ c rfl hc
        simp only [cof] at hc
        split at hc
        · cases hc
          rename_i hj
          exact ⟨hj, #[], by rw [put_new]; exact hp.new, trivial⟩
        · cases hc
theorem field_some {s : TypeId} {i : Nat} {fd : Field} (h : field P s i = some fd) : ∃ fs : Array Field, P.underlying s = some (.struct fs) ∧ fs[i]? = some fd := by
  unfold field at h
  split at h
  · rename_i fs hs; exact ⟨fs, hs, by rw [← Array.getElem?_toList]; exact h⟩
  · cases h
theorem pFieldAddr_ok {s : TypeId} {x : Operand} {i : Nat} (h : pFieldAddr s x i P f acc nx = some r) : PrimOK P f acc nx (.fieldAddr s x i) r := by
  obtain ⟨v, h1, h2⟩ := ob_some.1 h
  obtain ⟨b, o', h3, h4⟩ := ob2_some.1 h2
  have := asPtr_some h3; subst this
  obtain ⟨fd, h5, h6⟩ := ob_some.1 h4
  obtain ⟨n, h7, h8⟩ := ob_some.1 h6
  cases n with
  | zero => cases h8
  | succ n =>
    obtain ⟨u, h9, rfl⟩ := pv_some h8
    rw [ptrTo_eq] at h9; cases h9
    obtain ⟨fs, h10, h11⟩ := field_some h5
    refine PrimOK.of_pure fun μ A w ρ o ho hρ _ => ?_
    obtain ⟨ha, hx⟩ := hρ x (by simp [Op.operands]) _ h1
    refine ⟨.pointer (some ⟨(μ b).1, (μ b).2 + (o' + fd.offset), none⟩), ?_, ha, rfl⟩
    obtain ⟨dst, op, ty, pos, after, guard⟩ := o
    simp only at ho; subst ho
    simp [execOp, hx, Instr.fieldAt, run_underlying' h10, h11, Instr.sureAddr, fieldPlace, run_sizeOf h7, add_at', Nat.add_assoc]
theorem VRs.drop : ∀ {l : List V} {xs : List Value} (n : Nat), VRs μ A w l xs → VRs μ A w (l.drop n) (xs.drop n)
  | [], [], _, _ => by simp [VRs]
  | [], _ :: _, _, h => h.elim
  | _ :: _, [], _, h => h.elim
  | _ :: l, _ :: xs, 0, h => h
  | _ :: l, _ :: xs, n + 1, h => by simp only [VRs] at h; simp only [List.drop_succ_cons]; exact VRs.drop n h.2
theorem VRs.take : ∀ {l : List V} {xs : List Value} (n : Nat), VRs μ A w l xs → VRs μ A w (l.take n) (xs.take n)
  | [], [], _, _ => by simp [VRs]
  | [], _ :: _, _, h => h.elim
  | _ :: _, [], _, h => h.elim
  | _ :: l, _ :: xs, 0, h => by simp [VRs]
  | _ :: l, _ :: xs, n + 1, h => by simp only [VRs] at h; simp only [List.take_succ_cons, VRs]; exact ⟨h.1, VRs.take n h.2⟩
theorem part_sound {t : TypeId} {l : List V} {off : Nat} {v : V} (h : partP P t l off = some v) {cs : Array Value} (hl : VRs μ A w l cs.toList) (w1 : World) :
    ∃ y, (part t cs off).run P w1 = .ok y w1 ∧ VR μ A w v y := by
  obtain ⟨g, h1, h2⟩ := ob_some.1 h
  rw [ib_eq] at h2
  cases g with
  | true =>
    simp only [if_true] at h2
    obtain ⟨n, h3, h4⟩ := ob_some.1 h2
    cases h4
    refine ⟨.agg (cs.extract off (off + n)), by simp [part, isAg_some h1, run_sizeOf h3], _, rfl, ?_⟩
    have : (cs.extract off (off + n)).toList = (cs.toList.drop off).take n := by
      rw [Array.toList_extract, List.extract_eq_take_drop]; congr 1; omega
    rw [this]
    exact VRs.take n (VRs.drop off hl)
  | false =>
    simp only [Bool.false_eq_true, if_false] at h2
    obtain ⟨y, h3, h4⟩ := VRs.nth off v hl h2
    refine ⟨y, ?_, h4⟩
    rw [Array.getElem?_toList] at h3
    simp [part, isAg_some h1, h3]
theorem pField_ok {s : TypeId} {x : Operand} {i : Nat} (h : pField s x i P f acc nx = some r) : PrimOK P f acc nx (.field s x i) r := by
  obtain ⟨v, h1, h2⟩ := ob_some.1 h
  obtain ⟨l, h3, h4⟩ := ob_some.1 h2
  have := asAgg_some h3; subst this
  obtain ⟨fd, h5, h6⟩ := ob_some.1 h4
  obtain ⟨u, h7, rfl⟩ := pv_some h6
  obtain ⟨fs, h10, h11⟩ := field_some h5
  refine PrimOK.of_pure fun μ A w ρ o ho hρ _ => ?_
  obtain ⟨cs, hx, hl⟩ := hρ x (by simp [Op.operands]) _ h1
  obtain ⟨y, h12, h13⟩ := part_sound (P := P) h7 hl w
  refine ⟨y, ?_, h13⟩
  obtain ⟨dst, op, ty, pos, after, guard⟩ := o
  simp only at ho; subst ho
  simp [execOp, hx, Instr.field, run_underlying' h10, h11, Go.asAgg, h12]
theorem idx_some {ix : V} {n i : Nat} (h : idx ix n = some i) : ∃ k, ix = .int k i ∧ i < n := by
  obtain ⟨m, h1, h2⟩ := ob_some.1 h
  obtain ⟨h3, h4⟩ := gd_some.1 h2
  cases h4
  obtain ⟨k, rfl⟩ := asNat_some h1
  exact ⟨k, rfl, by rw [nblt] at h3; simpa using h3⟩
theorem pIndexAddr_ok {t : TypeId} {x i : Operand} (h : pIndexAddr t x i P f acc nx = some r) : PrimOK P f acc nx (.indexAddr t x i) r := by
  obtain ⟨xv, h1, h2⟩ := ob_some.1 h
  obtain ⟨iv, h3, h4⟩ := ob_some.1 h2
  obtain ⟨u, h5, rfl⟩ := pv_some h4
  unfold indexAddrP at h5
  cases he : elemOf' P t with
  | some e =>
    rw [he] at h5
    obtain ⟨b, o', n, es, cap, rfl, h6⟩ := obS_some h5
    obtain ⟨m, h7, h8⟩ := ob_some.1 h6
    obtain ⟨s, h9, h10⟩ := ob_some.1 h8
    rw [ptrTo_eq] at h10; cases h10
    obtain ⟨k, rfl, hm⟩ := idx_some h7
    have hu := elemOf'_some he
    refine PrimOK.of_pure fun μ A w ρ o ho hρ _ => ?_
    obtain ⟨ha, c, hx, _⟩ := hρ x (by simp [Op.operands]) _ h1
    have hi : ρ i = .int k m := hρ i (by simp [Op.operands]) _ h3
    refine ⟨.pointer (some ⟨(μ b).1, (μ b).2 + (o' + m * s), none⟩), ?_, ha, rfl⟩
    obtain ⟨dst, op, ty, pos, after, guard⟩ := o
    simp only at ho; subst ho
    simp [execOp, hx, hi, Instr.indexAt, asIntOf, run_underlying' hu, run_sizeOf h9, add_at', Nat.add_assoc, hm]
  | none =>
    rw [he] at h5
    obtain ⟨n, e, h6, h6'⟩ := ob2_some.1 h5
    obtain ⟨b, o', h7, h8⟩ := ob2_some.1 h6'
    have := asPtr_some h7; subst this
    obtain ⟨m, h9, h10⟩ := ob_some.1 h8
    obtain ⟨s, h11, h12⟩ := ob_some.1 h10
    rw [ptrTo_eq] at h12; cases h12
    obtain ⟨k, rfl, hm⟩ := idx_some h9
    have hu := arrOf_some h6
    refine PrimOK.of_pure fun μ A w ρ o ho hρ _ => ?_
    obtain ⟨ha, hx⟩ := hρ x (by simp [Op.operands]) _ h1
    have hi : ρ i = .int k m := hρ i (by simp [Op.operands]) _ h3
    refine ⟨.pointer (some ⟨(μ b).1, (μ b).2 + (o' + m * s), none⟩), ?_, ha, rfl⟩
    obtain ⟨dst, op, ty, pos, after, guard⟩ := o
    simp only at ho; subst ho
    simp [execOp, hx, hi, Instr.indexAt, asIntOf, run_underlying' hu, run_sizeOf h11, add_at', Nat.add_assoc, hm, Instr.sureAddr]
theorem pIndex_ok {t : TypeId} {x i : Operand} (h : pIndex t x i P f acc nx = some r) : PrimOK P f acc nx (.index t x i) r := by
  obtain ⟨xv, h1, h2⟩ := ob_some.1 h
  obtain ⟨iv, h3, h4⟩ := ob_some.1 h2
  obtain ⟨u, h5, rfl⟩ := pv_some h4
  unfold indexP at h5
  rw [ib_eq] at h5
  split at h5
  · rename_i hs
    have hu := isStr_true hs
    obtain ⟨l, h6, h7⟩ := ob_some.1 h5
    have := asStr_some h6; subst this
    obtain ⟨m, h8, h9⟩ := ob_some.1 h7
    obtain ⟨k, rfl⟩ := asNat_some h8
    obtain ⟨c, h10, h11⟩ := ob_some.1 h9
    rw [num_eq] at h11; cases h11
    rw [nthL_eq] at h10
    refine PrimOK.of_pure fun μ A w ρ o ho hρ _ => ⟨.int .u8 c, ?_, rfl⟩
    obtain ⟨s, hx, hl⟩ := VR.str_iff (hρ x (by simp [Op.operands]) _ h1)
    have hi : ρ i = .int k m := hρ i (by simp [Op.operands]) _ h3
    rw [← hl, List.getElem?_map, Option.map_eq_some_iff] at h10
    obtain ⟨c', h12, h13⟩ := h10
    have hb : s[m]? = some c' := by
      have : s.data[m]? = some c' := by rw [← Array.getElem?_toList]; exact h12
      rw [Array.getElem?_eq_some_iff] at this
      obtain ⟨q1, q2⟩ := this
      have q1' : m < s.size := q1
      rw [getElem?_pos s m q1']
      exact congrArg some q2
    obtain ⟨dst, op, ty, pos, after, guard⟩ := o
    simp only at ho; subst ho
    simp [execOp, hx, hi, Instr.index, asIntOf, run_underlying' hu, hb, h13]
  · obtain ⟨n, e, h6, h7⟩ := ob2_some.1 h5
    obtain ⟨l, h8, h9⟩ := ob_some.1 h7
    have := asAgg_some h8; subst this
    obtain ⟨m, h10, h11⟩ := ob_some.1 h9
    obtain ⟨s, h12, h13⟩ := ob_some.1 h11
    obtain ⟨k, rfl, hm⟩ := idx_some h10
    have hu := arrOf_some h6
    refine PrimOK.of_pure fun μ A w ρ o ho hρ _ => ?_
    obtain ⟨cs, hx, hl⟩ := hρ x (by simp [Op.operands]) _ h1
    have hi : ρ i = .int k m := hρ i (by simp [Op.operands]) _ h3
    obtain ⟨y, h14, h15⟩ := part_sound (P := P) h13 hl w
    refine ⟨y, ?_, h15⟩
    obtain ⟨dst, op, ty, pos, after, guard⟩ := o
    simp only at ho; subst ho
    simp [execOp, hx, hi, Instr.index, asIntOf, run_underlying' hu, run_sizeOf h12, hm, h14]
theorem pExtract_ok {x : Operand} {i : Nat} (h : pExtract x i P f acc nx = some r) : PrimOK P f acc nx (.extract x i) r := by
  obtain ⟨v, h1, h2⟩ := ob_some.1 h
  obtain ⟨l, h3, h4⟩ := ob_some.1 h2
  have := asTup_some h3; subst this
  obtain ⟨u, h5, rfl⟩ := pv_some h4
  refine PrimOK.of_pure fun μ A w ρ o ho hρ _ => ?_
  obtain ⟨cs, hx, hl⟩ := hρ x (by simp [Op.operands]) _ h1
  obtain ⟨y, h6, h7⟩ := VRs.nth i u hl h5
  rw [Array.getElem?_toList] at h6
  refine ⟨y, ?_, h7⟩
  obtain ⟨dst, op, ty, pos, after, guard⟩ := o
  simp only at ho; subst ho
  simp [execOp, hx, Instr.extract, h6]
end
end Go.X
