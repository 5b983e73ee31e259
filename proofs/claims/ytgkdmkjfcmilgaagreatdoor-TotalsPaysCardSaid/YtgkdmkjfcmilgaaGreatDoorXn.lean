/- What the executor says of one operation is what the model does: builds, lengths, least and greatest. -/
import Derived.Test.YtgkdmkjfcmilgaaGreatDoorXm
set_option linter.unusedVariables false
set_option linter.unusedSimpArgs false
namespace Go.X
section
variable {P : Program} {f : Operand → Option V} {acc : Nat → Option Blk} {nx : Nat} {r : PR} {μ : Nat → Nat × Nat} {A : Nat → Prop} {w : World}
theorem setsL_VR : ∀ {cs : List V} {xs : List Value} (n : Nat) {l : List V} {ys : List Value}, VRs μ A w cs xs → VRs μ A w l ys → n + l.length ≤ cs.length →
    VRs μ A w (setsL cs n l) (xs.take n ++ ys ++ xs.drop (n + ys.length))
  | cs, xs, n, [], [], h, _, _ => by
    have : setsL cs n [] = cs := by cases cs <;> rfl
    rw [this]; simpa using h
  | _, _, _, [], _ :: _, _, h, _ => h.elim
  | _, _, _, _ :: _, [], _, h, _ => h.elim
  | [], _, _, _ :: _, _ :: _, _, _, h => by simp at h
  | _ :: _, [], _, _, _, h, _, _ => h.elim
  | c :: cs, x :: xs, 0, v :: l, y :: ys, h, k, hn => by
    simp only [VRs] at h k
    have := setsL_VR 0 h.2 k.2 (by simp at hn; omega)
    simp only [setsL]
    simp only [List.take_zero, List.nil_append, Nat.zero_add] at this ⊢
    simp only [List.cons_append, List.length_cons, List.drop_succ_cons, VRs]
    exact ⟨k.1, this⟩
  | c :: cs, x :: xs, n + 1, v :: l, y :: ys, h, k, hn => by
    simp only [VRs] at h
    have := setsL_VR n h.2 k (by simp at hn ⊢; omega)
    simp only [setsL, List.take_succ_cons, List.cons_append, VRs]
    rw [show n + 1 + (y :: ys).length = (n + (y :: ys).length) + 1 by omega, List.drop_succ_cons]
    exact ⟨h.1, this⟩
theorem setsL_length : ∀ (cs : List V) (n : Nat) (l : List V), (setsL cs n l).length = cs.length
  | cs, n, [] => by cases cs <;> rfl
  | [], _, _ :: _ => rfl
  | c :: cs, 0, v :: l => by simp [setsL, setsL_length cs 0 l]
  | c :: cs, n + 1, v :: l => by simp [setsL, setsL_length cs n (v :: l)]
/-- What 'fill' does with the cells, in a list. -/
theorem fold_set : ∀ (ys : List Value) (cells : Array Value) (off i : Nat), off + i + ys.length ≤ cells.size →
    ((ys.zipIdx i).foldl (fun cs (c, j) => cs.setIfInBounds (off + j) c) cells).toList = cells.toList.take (off + i) ++ ys ++ cells.toList.drop (off + i + ys.length)
  | [], cells, off, i, _ => by simp
  | y :: ys, cells, off, i, h => by
    simp only [List.zipIdx_cons, List.foldl_cons]
    rw [fold_set ys _ off (i + 1) (by simp at h ⊢; omega)]
    have h1 : off + i < cells.toList.length := by simp at h ⊢; omega
    rw [Array.toList_setIfInBounds, show off + (i + 1) = off + i + 1 by omega, List.take_add_one, List.take_set_of_le (Nat.le_refl _)]
    simp only [List.getElem?_set_self h1, Option.toList_some, List.length_cons]
    rw [List.drop_set_of_lt (by omega)]
    simp only [List.append_assoc, List.cons_append, List.nil_append]
    rw [show off + i + 1 + ys.length = off + i + (ys.length + 1) by omega]
theorem fillL_sound {place : Nat → Option (Nat × Nat)} : ∀ {ps : List (Nat × V)} {ys : List (Nat × Value)} {cs cs' : List V} {cells : Array Value}, fillL place ps cs = some cs' →
    VRs μ A w cs cells.toList → ps.length = ys.length → (∀ (i : Nat) (p : Nat × V) (q : Nat × Value), ps[i]? = some p → ys[i]? = some q → p.1 = q.1 ∧ VR μ A w p.2 q.2) →
    ∃ cells', Instr.fill place cells ys = some cells' ∧ VRs μ A w cs' cells'.toList
  | [], [], cs, cs', cells, h, hc, _, _ => by obtain rfl : cs = cs' := Option.some.inj h; exact ⟨cells, rfl, hc⟩
  | [], _ :: _, _, _, _, _, _, hl, _ => by simp at hl
  | _ :: _, [], _, _, _, _, _, hl, _ => by simp at hl
  | (i, v) :: ps, (i', y) :: ys, cs, cs', cells, h, hc, hl, hp => by
    obtain ⟨off, size, h1, h2⟩ := ob2_some.1 h
    obtain ⟨h3, h4⟩ := gd_some.1 h2
    obtain ⟨h5, h6⟩ := gd_some.1 h4
    obtain ⟨e1, e2⟩ := hp 0 _ _ rfl rfl
    simp only at e1 e2; subst e1
    have hv := cells_VR e2
    have hvl := VRs.length hv
    have hcl := VRs.length hc
    rw [nbeq, len_eq] at h3; rw [nble, len_eq] at h5
    simp only [Nat.add_zero, decide_eq_true_eq] at h3 h5
    have hsz : y.cells.size = size := by rw [← h3, hvl]; simp
    have hcs : cells.size = cs.length := by rw [hcl]; simp
    have hle : off + y.cells.size ≤ cells.size := by omega
    have hfold : (y.cells.zipIdx.foldl (fun cs (c, j) => cs.setIfInBounds (off + j) c) cells).toList = cells.toList.take off ++ y.cells.toList ++ cells.toList.drop (off + y.cells.size) := by
      have := fold_set y.cells.toList cells off 0 (by simp; omega)
      simp only [Nat.add_zero, Array.length_toList] at this
      rw [← this, ← Array.foldl_toList, Array.toList_zipIdx]
    have hnew : VRs μ A w (setsL cs off v.cells) (y.cells.zipIdx.foldl (fun cs (c, j) => cs.setIfInBounds (off + j) c) cells).toList := by
      rw [hfold]
      have := setsL_VR off hc hv (by omega)
      simpa using this
    obtain ⟨cells', h7, h8⟩ := fillL_sound (ps := ps) (ys := ys) h6 hnew (by simpa using hl) (fun j p q hj hq => hp (j + 1) p q (by simpa using hj) (by simpa using hq))
    refine ⟨cells', ?_, h8⟩
    simp only [Instr.fill, h1]
    have hle' : off + size ≤ cells.size := by omega
    rw [if_neg (by simp [hsz]; exact hle')]
    exact h7
theorem evp_VR {ρ : Operand → Value} : ∀ {ps : List (Nat × Operand)} {vs : List (Nat × V)}, evp f ps = some vs → (∀ x ∈ ps.map (·.2), ∀ u, f x = some u → VR μ A w u (ρ x)) →
    vs.length = (ps.map fun p => (p.1, ρ p.2)).length ∧ ∀ (i : Nat) (p : Nat × V) (q : Nat × Value), vs[i]? = some p → (ps.map fun p => (p.1, ρ p.2))[i]? = some q → p.1 = q.1 ∧ VR μ A w p.2 q.2
  | [], vs, h, _ => by obtain rfl : [] = vs := Option.some.inj h; exact ⟨rfl, fun i p q h => by simp at h⟩
  | (i, x) :: ps, vs, h, hρ => by
    obtain ⟨v, h1, h2⟩ := ob_some.1 h
    obtain ⟨us, h3, h4⟩ := ob_some.1 h2
    cases h4
    obtain ⟨h5, h6⟩ := evp_VR h3 fun y hy => hρ y (by simp at hy ⊢; exact Or.inr hy)
    refine ⟨by simp at h5 ⊢; exact h5, fun j p q hj hq => ?_⟩
    cases j with
    | zero =>
      simp at hj hq; subst hj; subst hq
      exact ⟨rfl, hρ x (by simp) v h1⟩
    | succ j => exact h6 j p q (by simpa using hj) (by simpa using hq)
theorem pairs_map (ps : Array (Nat × Operand)) (ρ : Operand → Value) : (ps.map fun (i, x) => (i, ρ x)).toList = ps.toList.map fun p => (p.1, ρ p.2) := by
  rw [Array.toList_map]
theorem structOf_some {t : TypeId} {fs : List Field} (h : structOf P t = some fs) : ∃ a : Array Field, P.underlying t = some (.struct a) ∧ a.toList = fs := by
  unfold structOf at h
  split at h
  · rename_i a ha; exact ⟨a, ha, Option.some.inj h⟩
  · cases h
theorem fieldsOk_run : ∀ {fs : List Field}, fieldsOk P fs = true → ∀ w1 : World, ∃ ps : List (Nat × Nat), (fs.mapM (m := Sem) fun f => do pure (f.offset, ← sizeOf f.type)).run P w1 = .ok ps w1 ∧ ∀ i, ps[i]? = fieldPlaceP P fs i
  | [], _, w1 => ⟨[], by simp, fun i => by simp [fieldPlaceP, ob]⟩
  | fd :: fs, h, w1 => by
    simp only [fieldsOk] at h
    split at h
    · rename_i n hn
      obtain ⟨ps, h1, h2⟩ := fieldsOk_run h w1
      refine ⟨(fd.offset, n) :: ps, by rw [List.mapM_cons]; simp only [Sem.run_bind, run_sizeOf hn, Result.andThen_ok, Sem.run_pure, h1], fun i => ?_⟩
      cases i with
      | zero => simp [fieldPlaceP, hn, ob]
      | succ i => simpa [fieldPlaceP] using h2 i
    · cases h
theorem pBuild_ok {t : TypeId} {ps : Array (Nat × Operand)} (h : pBuild t ps P f acc nx = some r) : PrimOK P f acc nx (.build t ps) r := by
  obtain ⟨l, h1, h2⟩ := ob_some.1 h
  obtain ⟨u, h3, rfl⟩ := pv_some h2
  obtain ⟨z, h4, h5⟩ := ob_some.1 h3
  obtain ⟨i, zv, h6, h7, h8⟩ := zeroL_some h4
  refine PrimOK.of_pure fun μ A w ρ o ho hρ _ => ?_
  obtain ⟨dst, op, ty, pos, after, guard⟩ := o
  simp only at ho; subst ho
  obtain ⟨e1, e2⟩ := evp_VR (μ := μ) (A := A) (w := w) (ρ := ρ) h1 (fun x hx => hρ x (by simp [Op.operands]; simpa using hx))
  cases hs : structOf P t with
  | some fs =>
    rw [hs] at h5
    obtain ⟨h9, h10⟩ := gd_some.1 h5
    obtain ⟨cs, h11, h12⟩ := ob_some.1 h10
    cases h12
    obtain ⟨a, h13, rfl⟩ := structOf_some hs
    obtain ⟨pl, h14, h15⟩ := fieldsOk_run (P := P) h9 w
    obtain ⟨cells', h16, h17⟩ := fillL_sound (place := fieldPlaceP P a.toList) h11 (h8 μ A w) e1 e2
    refine ⟨.agg cells', ?_, cells', rfl, h17⟩
    have hplace : (fun x => pl.toArray[x]?) = fieldPlaceP P a.toList := by funext x; rw [List.getElem?_toArray]; exact h15 x
    have hm : (a.mapM (m := Sem) fun f => do pure (f.offset, ← sizeOf f.type)).run P w = .ok pl.toArray w := by
      rw [Array.mapM_eq_mapM_toList]
      simp only [Sem.run_map, h14, Result.andThen_ok]
    simp only [execOp, Instr.build, Sem.run_bind, run_zeroValue h6 h7, Result.andThen_ok, run_underlying' h13, hm, pairs_map, hplace, h16, Sem.run_pure]
  | none =>
    rw [hs] at h5
    obtain ⟨n, e, h9, h10⟩ := ob2_some.1 h5
    obtain ⟨k, h11, h12⟩ := ob_some.1 h10
    obtain ⟨cs, h13, h14⟩ := ob_some.1 h12
    cases h14
    have hu := arrOf_some h9
    obtain ⟨cells', h16, h17⟩ := fillL_sound h13 (h8 μ A w) e1 e2
    refine ⟨.agg cells', ?_, cells', rfl, h17⟩
    simp only [execOp, Instr.build, Sem.run_bind, run_zeroValue h6 h7, Result.andThen_ok, run_underlying' hu, run_sizeOf h11, pairs_map, h16, Sem.run_pure]
theorem rep_VR {l : List V} {xs : List Value} (h : VRs μ A w l xs) : ∀ n, VRs μ A w (rep n l) ((List.replicate n xs).flatten)
  | 0 => by simp [rep, VRs]
  | n + 1 => by simp only [rep, List.replicate_succ, List.flatten_cons]; exact VRs.app h (rep_VR h n)
theorem range_mod (z : Array Value) : ∀ n, ((Array.range (n * z.size)).map (z[· % z.size]!)).toList = (List.replicate n z.toList).flatten := by
  intro n
  rw [Array.toList_map, Array.toList_range]
  induction n with
  | zero => simp
  | succ n ih =>
    rw [Nat.succ_mul, List.range_add, List.map_append, ih, List.replicate_succ', List.flatten_append]
    simp only [List.flatten_cons, List.flatten_nil, List.append_nil]
    congr 1
    apply List.ext_getElem?
    intro i
    simp only [List.map_map, List.getElem?_map]
    by_cases hi : i < z.size
    · rw [List.getElem?_range hi]
      simp only [Option.map_some, Function.comp]
      rw [Nat.mul_comm, Nat.mul_add_mod, Nat.mod_eq_of_lt hi]
      simp [hi]
    · rw [List.getElem?_eq_none (by simp; omega), List.getElem?_eq_none (by simp; omega)]; rfl
theorem VRs.of_eq {l : List V} {xs ys : List Value} (h : VRs μ A w l xs) (e : xs = ys) : VRs μ A w l ys := e ▸ h
theorem rep_length (l : List V) : ∀ n, (rep n l).length = n * l.length
  | 0 => by simp [rep]
  | n + 1 => by simp [rep, rep_length l n, Nat.succ_mul, Nat.add_comm]
theorem fillL_length {place : Nat → Option (Nat × Nat)} : ∀ {ps : List (Nat × V)} {cs cs' : List V}, fillL place ps cs = some cs' → cs'.length = cs.length
  | [], cs, cs', h => by obtain rfl : cs = cs' := Option.some.inj h; rfl
  | (i, v) :: ps, cs, cs', h => by
    obtain ⟨off, size, h1, h2⟩ := ob2_some.1 h
    obtain ⟨h3, h4⟩ := gd_some.1 h2
    obtain ⟨h5, h6⟩ := gd_some.1 h4
    rw [fillL_length h6, setsL_length]
theorem pBuildSlice_ok {t : TypeId} {n : Nat} {ps : Array (Nat × Operand)} (h : pBuildSlice t n ps P f acc nx = some r) : PrimOK P f acc nx (.buildSlice t n ps) r := by
  obtain ⟨l, h1, h2⟩ := ob_some.1 h
  obtain ⟨e, h3, h4⟩ := ob_some.1 h2
  obtain ⟨k, h5, h6⟩ := ob_some.1 h4
  obtain ⟨z, h7, h8⟩ := ob_some.1 h6
  obtain ⟨h9, h10⟩ := gd_some.1 h8
  obtain ⟨h11, h12⟩ := gd_some.1 h10
  obtain ⟨cs, h13, h14⟩ := ob_some.1 h12
  obtain ⟨i, zv, h15, h16, h17⟩ := zeroL_some h7
  rw [nbeq, len_eq] at h9; rw [nble] at h11
  simp only [Nat.add_zero, decide_eq_true_eq] at h9 h11
  have hu := elemOf'_some h3
  refine alloc_ok h14 fun μ A w ρ o ho hρ _ => ?_
  obtain ⟨dst, op, ty, pos, after, guard⟩ := o
  simp only at ho; subst ho
  obtain ⟨e1, e2⟩ := evp_VR (μ := μ) (A := A) (w := w) (ρ := ρ) h1 (fun x hx => hρ x (by simp [Op.operands]; simpa using hx))
  have hz := h17 μ A w
  have hzs : zv.cells.size = k := by rw [← h9, VRs.length hz]; simp
  have hstart : VRs μ A w (rep n z) ((Array.range (n * k)).map (zv.cells[· % zv.cells.size]!)).toList := by
    have := range_mod zv.cells n
    rw [hzs] at this ⊢
    rw [this]; exact rep_VR hz n
  obtain ⟨cells', h18, h19⟩ := fillL_sound h13 hstart e1 e2
  have hsize : cells'.size = n * k := by
    have a1 := VRs.length h19
    rw [fillL_length h13, rep_length, h9] at a1
    simpa using a1.symm
  refine ⟨.slice (some ⟨w.heap.size, 0, none⟩) n n, w.alloc (.cells cells' e), cells', e, ?_, Pushed.alloc _ _, ⟨[], cells'.toList, by simp, h19⟩, ?_⟩
  · have h20 : ¬ (n * k > 16777216) := by omega
    by_cases hnk : n * k = 0
    · have hst : ((Array.range (n * k)).map fun x => zv.cells[x % zv.cells.size]!) = #[] := by rw [hnk]; simp
      rw [hst] at h18
      have hst2 : ((Array.range (n * k)).map fun x => (#[] : Array Value)[x % (#[] : Array Value).size]!) = #[] := by rw [hnk]; simp
      simp only [execOp, Instr.buildSlice, Sem.run_bind, run_underlying' hu, Result.andThen_ok, run_sizeOf h5, pairs_map, Sem.run_ite, if_neg h20, if_pos hnk, Sem.run_pure, hst2, h18, newRow, run_newObj_alloc]
    · simp only [execOp, Instr.buildSlice, Sem.run_bind, run_underlying' hu, Result.andThen_ok, run_sizeOf h5, pairs_map, Sem.run_ite, if_neg h20, if_neg hnk, Sem.run_pure, run_zeroValue h15 h16, h18, newRow, run_newObj_alloc]
  · intro μ' A' q1 q2
    refine ⟨q2, n, by simp [q1], Nat.le_refl _, (fun c hc => by cases hc; rfl), ?_⟩
    rw [q1, bsz_new (Pushed.alloc w (.cells cells' e)), hsize]; simp
theorem asNat_VR {v : V} {m : Nat} (h : asNat v = some m) {x : Value} (hx : VR μ A w v x) : ∃ k, x = .int k m := by
  obtain ⟨k, rfl⟩ := asNat_some h; exact ⟨k, hx⟩
theorem bytesOf_some {t : TypeId} {n : Nat} (h : bytesOf P t = some n) : ∃ i, P.info? t = some i ∧ i.bytes = n := by
  unfold bytesOf at h
  split at h
  · rename_i i hi; exact ⟨i, hi, Option.some.inj h⟩
  · cases h
theorem wrap_nat {n : Nat} (h : n ≤ 9223372036854775807) : IntKind.wrap .i64 (n : Int) = n := by
  simp only [IntKind.wrap, IntKind.bits, IntKind.signed, Bool.true_and]
  split <;> rename_i h2 <;> simp only [decide_eq_true_eq, ge_iff_le] at h2 <;> omega
theorem pMakeSlice_ok {t : TypeId} {l c : Operand} (h : pMakeSlice t l c P f acc nx = some r) : PrimOK P f acc nx (.makeSlice t l c) r := by
  obtain ⟨lv, h1, h2⟩ := ob_some.1 h
  obtain ⟨cv, h3, h4⟩ := ob_some.1 h2
  obtain ⟨e, h5, h6⟩ := ob_some.1 h4
  obtain ⟨ln, h7, h8⟩ := ob_some.1 h6
  obtain ⟨cn, h9, h10⟩ := ob_some.1 h8
  obtain ⟨k, h11, h12⟩ := ob_some.1 h10
  obtain ⟨z, h13, h14⟩ := ob_some.1 h12
  obtain ⟨bi, h15, h16⟩ := ob_some.1 h14
  obtain ⟨h17, h18⟩ := gd_some.1 h16
  obtain ⟨h19, h20⟩ := gd_some.1 h18
  obtain ⟨h21, h22⟩ := gd_some.1 h20
  obtain ⟨h23, h24⟩ := gd_some.1 h22
  rw [num_eq, num_eq] at h24
  obtain ⟨i, zv, h25, h26, h27⟩ := zeroL_some h13
  obtain ⟨i', h28, h29⟩ := bytesOf_some h15
  rw [h25] at h28; cases h28
  rw [nbeq, len_eq] at h17; rw [nble] at h19 h21 h23
  simp only [Nat.add_zero, decide_eq_true_eq] at h17 h19 h21 h23
  have hu := elemOf'_some h5
  refine alloc_ok h24 fun μ A w ρ o ho hρ _ => ?_
  obtain ⟨dst, op, ty, pos, after, guard⟩ := o
  simp only at ho; subst ho
  obtain ⟨k1, e1⟩ := asNat_VR h7 (hρ l (by simp [Op.operands]) _ h1)
  obtain ⟨k2, e2⟩ := asNat_VR h9 (hρ c (by simp [Op.operands]) _ h3)
  have hz := h27 μ A w
  have hzs : zv.cells.size = k := by rw [← h17, VRs.length hz]; simp
  have hrange := range_mod zv.cells cn
  rw [hzs] at hrange
  have hsz : ((Array.range (cn * k)).map fun x => zv.cells[x % zv.cells.size]!).size = cn * k := by simp
  refine ⟨.slice (some ⟨w.heap.size, 0, none⟩) ln cn, w.alloc (.cells ((Array.range (cn * k)).map (zv.cells[· % zv.cells.size]!)) e), _, e, ?_, Pushed.alloc _ _, ⟨[], (List.replicate cn zv.cells.toList).flatten, ?_, rep_VR hz cn⟩, ?_⟩
  · have hw1 := wrap_nat (n := ln) (by omega)
    have hw2 := wrap_nat h23
    have hb : ¬ ((i.bytes : Int) * (cn : Int) > 281474976710656) := by
      rw [h29, ← Int.natCast_mul bi cn]; omega
    have c1 : ¬ ((cn : Int) < 0) := by omega
    have c2 : ¬ ((ln : Int) < 0) := by omega
    have c3 : ¬ ((ln : Int) > (cn : Int)) := by omega
    have hti : ∀ w1 : World, (typeInfo e).run P w1 = .ok i w1 := fun w1 => by simp [typeInfo, h25]
    by_cases hnk : cn * k = 0
    · have hst : ((Array.range (cn * k)).map fun x => zv.cells[x % zv.cells.size]!) = #[] := by rw [hnk]; simp
      have hst2 : ((Array.range (cn * k)).map fun x => (#[] : Array Value)[x % (#[] : Array Value).size]!) = #[] := by rw [hnk]; simp
      simp [execOp, e1, e2, Instr.makeSlice, run_underlying' hu, Go.asInt, asIntOf, hti, hw1, hw2, hb, c1, c2, c3, run_sizeOf h11, hnk, newRow]
      rw [hnk] at hst
      rw [hst]; congr 1; simp [Array.range]
    · simp [execOp, e1, e2, Instr.makeSlice, run_underlying' hu, Go.asInt, asIntOf, hti, hw1, hw2, hb, c1, c2, c3, run_sizeOf h11, hnk, newRow, run_zeroValue h25 h26]
  · rw [hzs]; simpa using hrange
  · intro μ' A' q1 q2
    refine ⟨q2, cn, by simp [q1], h21, (fun c hc => by cases hc; rfl), ?_⟩
    rw [q1, bsz_new (Pushed.alloc w _), hsz]; simp
end
end Go.X
