/- What the executor says of one operation is what the model does: the quiet ones. -/
import Derived.Test.YtgkdmkjfcmilgaaGreatDoorXj
set_option linter.unusedVariables false
set_option linter.unusedSimpArgs false
namespace Go.X
section
variable {P : Program} {f : Operand → Option V} {acc : Nat → Option Blk} {nx : Nat} {r : PR}
theorem pv_some {v : Option V} (h : pv v = some r) : ∃ u, v = some u ∧ r = .pure u := by
  obtain ⟨u, h1, h2⟩ := ob_some.1 h; exact ⟨u, h1, (Option.some.inj h2).symm⟩
theorem pMove_ok {x : Operand} (h : pMove x P f acc nx = some r) : PrimOK P f acc nx (.move x) r := by
  obtain ⟨u, h1, rfl⟩ := pv_some h
  refine PrimOK.of_pure fun μ A w ρ o ho hρ _ => ⟨ρ x, ?_, hρ x (by simp [Op.operands]) u h1⟩
  obtain ⟨dst, op, ty, pos, after, guard⟩ := o
  simp only at ho; subst ho; rfl
theorem pAssign_ok {x : Operand} (h : pMove x P f acc nx = some r) : PrimOK P f acc nx (.assign x) r := by
  obtain ⟨u, h1, rfl⟩ := pv_some h
  refine PrimOK.of_pure fun μ A w ρ o ho hρ _ => ⟨ρ x, ?_, hρ x (by simp [Op.operands]) u h1⟩
  obtain ⟨dst, op, ty, pos, after, guard⟩ := o
  simp only at ho; subst ho; rfl
theorem pPick_ok {c a b : Operand} (h : pPick c a b P f acc nx = some r) : PrimOK P f acc nx (.pick c a b) r := by
  obtain ⟨cv, h1, h2⟩ := ob_some.1 h
  obtain ⟨q, h3, h4⟩ := ob_some.1 h2
  have := asBool_some h3; subst this
  rw [ib_eq] at h4
  cases q with
  | true =>
    simp only [if_true] at h4
    obtain ⟨u, h5, rfl⟩ := pv_some h4
    refine PrimOK.of_pure fun μ A w ρ o ho hρ _ => ⟨ρ a, ?_, hρ a (by simp [Op.operands]) u h5⟩
    have hc : ρ c = .bool true := hρ c (by simp [Op.operands]) _ h1
    obtain ⟨dst, op, ty, pos, after, guard⟩ := o
    simp only at ho; subst ho; simp [execOp, hc, Go.asBool]
  | false =>
    simp only [Bool.false_eq_true, if_false] at h4
    obtain ⟨u, h5, rfl⟩ := pv_some h4
    refine PrimOK.of_pure fun μ A w ρ o ho hρ _ => ⟨ρ b, ?_, hρ b (by simp [Op.operands]) u h5⟩
    have hc : ρ c = .bool false := hρ c (by simp [Op.operands]) _ h1
    obtain ⟨dst, op, ty, pos, after, guard⟩ := o
    simp only at ho; subst ho; simp [execOp, hc, Go.asBool]
theorem pLoad_ok {t : TypeId} {a : Operand} (h : pLoad t a P f acc nx = some r) : PrimOK P f acc nx (.load t a) r := by
  obtain ⟨av, h1, h2⟩ := ob_some.1 h
  obtain ⟨b, o', h3, h4⟩ := ob2_some.1 h2
  have := asPtr_some h3; subst this
  obtain ⟨u, h5, rfl⟩ := pv_some h4
  refine PrimOK.of_pure fun μ A w ρ o ho hρ hacc => ?_
  obtain ⟨_, ha⟩ := hρ a (by simp [Op.operands]) _ h1
  obtain ⟨y, h6, h7⟩ := loadVar_sound (P := P) h5 (fun k c hk => ⟨(hacc k c hk).1, (hacc k c hk).2.2⟩)
  refine ⟨y, ?_, h7⟩
  obtain ⟨dst, op, ty, pos, after, guard⟩ := o
  simp only at ho; subst ho; simp [execOp, ha, Instr.loadAt, Instr.sureAddr, h6]
theorem pNilCheck_ok {x : Operand} (h : pNilCheck x P f acc nx = some r) : PrimOK P f acc nx (.nilCheck x) r := by
  obtain ⟨v, h1, h2⟩ := ob_some.1 h
  obtain ⟨h3, h4⟩ := gd_some.1 h2
  cases h4
  refine PrimOK.of_pure fun μ A w ρ o ho hρ _ => ?_
  have hx := hρ x (by simp [Op.operands]) _ h1
  refine ⟨ρ x, ?_, hx⟩
  obtain ⟨dst, op, ty, pos, after, guard⟩ := o
  simp only at ho; subst ho
  cases v <;> first | (cases h3; done) | skip
  · obtain ⟨_, e⟩ := hx; simp [execOp, e]
  · obtain ⟨cs, e, _⟩ := hx; simp [execOp, e]
theorem pBin_ok {op : BinOp} {t ty' : TypeId} {x y : Operand} (h : pBin op t x y P f acc nx = some r) : PrimOK P f acc nx (.binOp op t x y ty') r := by
  obtain ⟨a, h1, h2⟩ := ob_some.1 h
  obtain ⟨b, h3, h4⟩ := ob_some.1 h2
  obtain ⟨u, h5, rfl⟩ := pv_some h4
  refine PrimOK.of_pure fun μ A w ρ o ho hρ _ => ?_
  obtain ⟨y', h6, h7⟩ := binP_sound (P := P) h5 (hρ x (by simp [Op.operands]) _ h1) (hρ y (by simp [Op.operands]) _ h3) x y w
  refine ⟨y', ?_, h7⟩
  obtain ⟨dst, op, ty, pos, after, guard⟩ := o
  simp only at ho; subst ho
  simp only [execOp, Sem.run_bind, h6, Result.andThen_ok, Sem.run_pure]
theorem pUn_ok {op : UnOp} {t : TypeId} {x : Operand} (h : pUn op x P f acc nx = some r) : PrimOK P f acc nx (.unOp op t x) r := by
  cases op <;> first | (cases h; done) | skip
  · obtain ⟨v, h1, h2⟩ := ob_some.1 h
    obtain ⟨k, n, h3, h4⟩ := ob2_some.1 h2
    have := asInt_some h3; subst this
    obtain ⟨u, h5, rfl⟩ := pv_some h4
    rw [wrapK_eq] at h5; cases h5
    refine PrimOK.of_pure fun μ A w ρ o ho hρ _ => ⟨_, ?_, rfl⟩
    have hx : ρ x = .int k n := hρ x (by simp [Op.operands]) _ h1
    obtain ⟨dst, op, ty, pos, after, guard⟩ := o
    simp only at ho; subst ho
    simp [execOp, hx, Op.unary, Op.intArith]
  · obtain ⟨v, h1, h2⟩ := ob_some.1 h
    obtain ⟨b, h3, h4⟩ := ob_some.1 h2
    have := asBool_some h3; subst this
    obtain ⟨u, h5, rfl⟩ := pv_some h4
    rw [bool_eq] at h5; cases h5
    refine PrimOK.of_pure fun μ A w ρ o ho hρ _ => ⟨_, ?_, rfl⟩
    have hx : ρ x = .bool b := hρ x (by simp [Op.operands]) _ h1
    obtain ⟨dst, op, ty, pos, after, guard⟩ := o
    simp only at ho; subst ho
    simp [execOp, hx, Op.unary]
theorem pConvert_ok {s d : TypeId} {x : Operand} (h : pConvert s d x P f acc nx = some r) : PrimOK P f acc nx (.convert s d x) r := by
  obtain ⟨v, h1, h2⟩ := ob_some.1 h
  obtain ⟨k, n, h3, h4⟩ := ob2_some.1 h2
  have := asInt_some h3; subst this
  obtain ⟨k', h5, h6⟩ := ob_some.1 h4
  obtain ⟨u, h7, rfl⟩ := pv_some h6
  rw [wrapK_eq] at h7; cases h7
  refine PrimOK.of_pure fun μ A w ρ o ho hρ _ => ⟨_, ?_, rfl⟩
  have hx : ρ x = .int k n := hρ x (by simp [Op.operands]) _ h1
  unfold intDst at h5
  split at h5
  · rename_i q k'' hs hd
    cases h5
    obtain ⟨dst, op, ty, pos, after, guard⟩ := o
    simp only at ho; subst ho
    simp [execOp, hx, convert, run_underlying' hs, run_underlying' hd, Conv.intToInt]
  · cases h5
end
end Go.X
