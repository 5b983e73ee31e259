/- The executor is right: code and calls. -/
import Derived.Test.YtgkdmkjfcmilgaaGreatDoorXz
set_option linter.unusedVariables false
set_option linter.unusedSimpArgs false
namespace Go.X
theorem argsK_eq {β : Type} : ∀ (l : List V) (i : Nat) (t : T V) (k : T V → β), ∃ t', argsK l i t k = k t' ∧ ∀ j, t'.get j = if i ≤ j ∧ j < i + l.length then l[j - i]? else t.get j
  | [], i, t, k => ⟨t, rfl, fun j => by rw [if_neg (by simp only [List.length_nil]; omega)]⟩
  | v :: l, i, t, k => by
    have h : argsK (v :: l) i t k = t.setK i v fun t' => num (Nat.succ i) fun i' => argsK l i' t' k := rfl
    rw [h, T.setK_eq, num_eq]
    obtain ⟨t', h1, h2⟩ := argsK_eq l (Nat.succ i) (T.set t i v) k
    refine ⟨t', h1, fun j => ?_⟩
    rw [h2 j, T.get_set]
    by_cases e : i = j
    · subst e
      rw [if_neg (by omega), if_pos rfl, if_pos (by simp)]; simp
    · rw [if_neg e]
      by_cases e2 : Nat.succ i ≤ j ∧ j < Nat.succ i + l.length
      · rw [if_pos e2, if_pos (by simp; omega), show j - i = (j - Nat.succ i) + 1 by omega, List.getElem?_cons_succ]
      · rw [if_neg e2, if_neg (by simp; omega)]
section
variable {P : Program} {G : Nat}
theorem resV_ok {μ : Nat → Nat × Nat} {A : Nat → Prop} {w : World} {t : T V} {h : T Blk} {tmps : Array Value} (ht : ∀ i u, t.get i = some u → VR μ A w u (tmps.getD i undef))
    (hh : ∀ k c, cof h.get k = some c → A k.1 ∧ CR μ A w k c) : ∀ (l : List ResultVar) (vs : List V), resV P t h l = some vs →
    ∃ ys : List Value, (l.mapM fun (x : ResultVar) => match x with
      | .tmp t => (pure (tmps.getD t undef) : Sem Value)
      | .cell a t => do loadVar t (← asAddr (tmps.getD a undef))).run P w = .ok ys w ∧ VRs μ A w vs ys
  | [], vs, h => by cases h; exact ⟨[], by simp, trivial⟩
  | .tmp i :: l, vs, h => by
    obtain ⟨v, h1, h2⟩ := ob_some.1 h
    obtain ⟨us, h3, h4⟩ := ob_some.1 h2
    cases h4
    obtain ⟨ys, h5, h6⟩ := resV_ok ht hh l us h3
    refine ⟨tmps.getD i undef :: ys, ?_, ?_⟩
    · rw [List.mapM_cons]
      simp only [Sem.run_bind, Sem.run_pure, Result.andThen, h5]
    · simp only [VRs]; exact ⟨ht i v h1, h6⟩
  | .cell a ty :: l, vs, h => by
    obtain ⟨p, h1, h2⟩ := ob_some.1 h
    obtain ⟨b, o, h3, h4⟩ := ob2_some.1 h2
    obtain ⟨v, h5, h6⟩ := ob_some.1 h4
    obtain ⟨us, h7, h8⟩ := ob_some.1 h6
    cases h8
    have := asPtr_some h3; subst this
    obtain ⟨ys, h9, h10⟩ := resV_ok ht hh l us h7
    have hp := ht a _ h1
    simp only [VR] at hp
    obtain ⟨y, h11, h12⟩ := loadVar_sound (P := P) (A := A) (w := w) h5 hh
    refine ⟨y :: ys, ?_, ?_⟩
    · rw [List.mapM_cons]
      have hq : (asAddr (tmps.getD a undef)).run P w = .ok ⟨(μ b).1, (μ b).2 + o, none⟩ w := by rw [hp.2]; rfl
      simp only [Sem.run_bind, Sem.run_pure, Result.andThen, hq, h9, h11]
    · simp only [VRs]; exact ⟨h12, h10⟩
theorem results_ok {μ : Nat → Nat × Nat} {A : Nat → Prop} {w : World} {t : T V} {h : T Blk} {tmps : Array Value} {F : Func} {vs : List V} (ht : ∀ i u, t.get i = some u → VR μ A w u (tmps.getD i undef))
    (hh : ∀ k c, cof h.get k = some c → A k.1 ∧ CR μ A w k c) (hr : resV P t h F.results.toList = some vs) : ∃ y, (results F tmps).run P w = .ok y w ∧ VR μ A w (tupOf vs) y := by
  obtain ⟨ys, h1, h2⟩ := resV_ok ht hh _ _ hr
  have h3 : (F.results.mapM fun (x : ResultVar) => match x with
      | .tmp t => (pure (tmps.getD t undef) : Sem Value)
      | .cell a t => do loadVar t (← asAddr (tmps.getD a undef))).run P w = .ok ys.toArray w := by
    rw [Array.mapM_eq_mapM_toList]
    simp only [Sem.run_map, h1, Result.andThen]
  refine ⟨if h : ys.toArray.size = 1 then ys.toArray[0] else .tuple ys.toArray, ?_, ?_⟩
  · unfold results
    simp only [Sem.run_bind, Sem.run_pure]
    exact congrArg (fun r => Result.andThen r fun (a : Array Value) w' => Result.ok (if h : a.size = 1 then a[0] else Value.tuple a) w') h3
  · have hl := VRs.length h2
    match vs, ys, h2, hl with
    | [v], [y], h2, _ => simp only [VRs] at h2; exact h2.1
    | [], [], h2, _ => exact ⟨#[], rfl, h2⟩
    | v :: v' :: vs, y :: y' :: ys, h2, _ =>
      rw [dif_neg (by simp)]
      exact ⟨(y :: y' :: ys).toArray, rfl, h2⟩
end
/-! Code. -/
section
variable {P : Program} {G : Nat}
theorem stepR_ok {over : CallT → CallT} {self : Runner} (hm : P.follows .mixedOrders = true) (hself : RunOK P G self) (hcall : CallOK P G (over (callF P self)))
    (hbody : ∀ (g : FuncId) (F : Func), P.funcs[g]? = some F → (F.name == "runtime.NumGoroutine") = false) : RunOK P G (stepR P G over self) := by
  intro base N c s ex s' hr
  have hr' : codeK c P G over self base N s = .ok (ex, s') := hr
  cases c with
  | skip =>
    cases hr'
    exact fun h0 hp => ⟨hp, Nat.le_refl _, fun μ0 A0 w0 M hfr hM hG a w hI => wp_skip ⟨rfl, hI⟩⟩
  | seq x y =>
    obtain ⟨⟨e, s1⟩, h1, h2⟩ := rb_ok.1 (show rb (self base N x s) _ = .ok (ex, s') from hr')
    have hx := hself base N x s e s1 h1
    cases e with
    | normal =>
      have hy := hself base N y s1 ex s' h2
      intro h0 hp
      obtain ⟨hp1, hl1, hw1⟩ := hx h0 hp
      obtain ⟨hp2, hl2, hw2⟩ := hy h0 hp1
      refine ⟨hp2, Nat.le_trans hl1 hl2, fun μ0 A0 w0 M hfr hM hG a w hI => wp_seq (wp_mono (hw1 μ0 A0 w0 M hfr (Nat.le_trans hl2 hM) hG a w hI).wp ?_)⟩
      rintro e a' w' ⟨rfl, hI'⟩
      exact (hw2 μ0 A0 w0 M hfr hM hG a' w' hI').wp
    | exit i =>
      cases h2
      intro h0 hp
      obtain ⟨hp1, hl1, hw1⟩ := hx h0 hp
      refine ⟨hp1, hl1, fun μ0 A0 w0 M hfr hM hG a w hI => wp_seq (wp_mono (hw1 μ0 A0 w0 M hfr hM hG a w hI).wp ?_)⟩
      rintro e a' w' ⟨rfl, hI'⟩
      exact ⟨rfl, hI'⟩
    | ret =>
      cases h2
      intro h0 hp
      obtain ⟨hp1, hl1, hw1⟩ := hx h0 hp
      refine ⟨hp1, hl1, fun μ0 A0 w0 M hfr hM hG a w hI => wp_seq (wp_mono (hw1 μ0 A0 w0 M hfr hM hG a w hI).wp ?_)⟩
      rintro e a' w' ⟨rfl, hI'⟩
      exact ⟨rfl, hI'⟩
  | cond x y z =>
    obtain ⟨b, h1, h2⟩ := oR_ok.1 (show oR (ob (ev G s.t x) asBool) "cond" 0 (fun c => ib c (self base N y s) (self base N z s)) = .ok (ex, s') from hr')
    obtain ⟨v, h3, h4⟩ := ob_some.1 h1
    have := asBool_some h4; subst this
    rw [ib_eq] at h2
    have hx : CodeStep P G base N (if b then y else z) ex s s' := by
      cases b
      · exact hself base N z s ex s' h2
      · exact hself base N y s ex s' h2
    intro h0 hp
    obtain ⟨hp1, hl1, hw1⟩ := hx h0 hp
    refine ⟨hp1, hl1, fun μ0 A0 w0 M hfr hM hG a w hI => ?_⟩
    have hev : a.eval x = .bool b := by
      obtain ⟨μ, hI⟩ := hI
      exact ev_VR (μ := μ) (A := fun id => A0 id ∨ (base ≤ id ∧ id < s.nx)) (w := w) h3 (fun g hg => ⟨Or.inl (hG g hg).1, by rw [(hI.old g (hG g hg).1).2]; exact (hG g hg).2⟩) (fun i u _ hu => hI.tm i u hu)
    exact wp_cond hev (hw1 μ0 A0 w0 M hfr hM hG a w hI).wp
  | block id b =>
    obtain ⟨⟨e, s1⟩, h1, h2⟩ := rb_ok.1 (show rb (self base N b s) _ = .ok (ex, s') from hr')
    have hx := hself base N b s e s1 h1
    cases e with
    | normal =>
      cases h2
      intro h0 hp
      obtain ⟨hp1, hl1, hw1⟩ := hx h0 hp
      refine ⟨hp1, hl1, fun μ0 A0 w0 M hfr hM hG a w hI => wp_block (wp_mono (hw1 μ0 A0 w0 M hfr hM hG a w hI).wp ?_)⟩
      rintro e a' w' ⟨rfl, hI'⟩
      exact ⟨rfl, hI'⟩
    | exit i =>
      have h2' : ib (Nat.beq i id) (R.ok (Ex.normal, s1)) (R.ok (Ex.exit i, s1)) = R.ok (ex, s') := h2
      rw [ib_eq, nbeq] at h2'
      by_cases hi : i = id
      · simp only [hi, decide_true, if_true] at h2'
        cases h2'
        intro h0 hp
        obtain ⟨hp1, hl1, hw1⟩ := hx h0 hp
        refine ⟨hp1, hl1, fun μ0 A0 w0 M hfr hM hG a w hI => wp_block (wp_mono (hw1 μ0 A0 w0 M hfr hM hG a w hI).wp ?_)⟩
        rintro e a' w' ⟨rfl, hI'⟩
        simp only [exitOf, Exit.inBlock, hi, if_true]
        exact ⟨trivial, hI'⟩
      · simp only [hi, decide_false, Bool.false_eq_true, if_false] at h2'
        cases h2'
        intro h0 hp
        obtain ⟨hp1, hl1, hw1⟩ := hx h0 hp
        refine ⟨hp1, hl1, fun μ0 A0 w0 M hfr hM hG a w hI => wp_block (wp_mono (hw1 μ0 A0 w0 M hfr hM hG a w hI).wp ?_)⟩
        rintro e a' w' ⟨rfl, hI'⟩
        simp only [exitOf, Exit.inBlock, hi, if_false]
        exact ⟨trivial, hI'⟩
    | ret =>
      cases h2
      intro h0 hp
      obtain ⟨hp1, hl1, hw1⟩ := hx h0 hp
      refine ⟨hp1, hl1, fun μ0 A0 w0 M hfr hM hG a w hI => wp_block (wp_mono (hw1 μ0 A0 w0 M hfr hM hG a w hI).wp ?_)⟩
      rintro e a' w' ⟨rfl, hI'⟩
      exact ⟨rfl, hI'⟩
  | loop b =>
    obtain ⟨⟨e, s1⟩, h1, h2⟩ := rb_ok.1 (show rb (self base N b s) _ = .ok (ex, s') from hr')
    have hx := hself base N b s e s1 h1
    cases e with
    | normal =>
      have hy := hself base N (.loop b) s1 ex s' h2
      intro h0 hp
      obtain ⟨hp1, hl1, hw1⟩ := hx h0 hp
      obtain ⟨hp2, hl2, hw2⟩ := hy h0 hp1
      refine ⟨hp2, Nat.le_trans hl1 hl2, fun μ0 A0 w0 M hfr hM hG a w hI => LoopWp.round (wp_mono (hw1 μ0 A0 w0 M hfr (Nat.le_trans hl2 hM) hG a w hI).wp ?_)⟩
      rintro e a' w' ⟨rfl, hI'⟩
      exact hw2 μ0 A0 w0 M hfr hM hG a' w' hI'
    | exit i =>
      cases h2
      intro h0 hp
      obtain ⟨hp1, hl1, hw1⟩ := hx h0 hp
      refine ⟨hp1, hl1, fun μ0 A0 w0 M hfr hM hG a w hI => LoopWp.round (wp_mono (hw1 μ0 A0 w0 M hfr hM hG a w hI).wp ?_)⟩
      rintro e a' w' ⟨rfl, hI'⟩
      exact ⟨rfl, hI'⟩
    | ret =>
      cases h2
      intro h0 hp
      obtain ⟨hp1, hl1, hw1⟩ := hx h0 hp
      refine ⟨hp1, hl1, fun μ0 A0 w0 M hfr hM hG a w hI => LoopWp.round (wp_mono (hw1 μ0 A0 w0 M hfr hM hG a w hI).wp ?_)⟩
      rintro e a' w' ⟨rfl, hI'⟩
      exact ⟨rfl, hI'⟩
  | exit i =>
    cases hr'
    exact fun h0 hp => ⟨hp, Nat.le_refl _, fun μ0 A0 w0 M hfr hM hG a w hI => wp_exit ⟨rfl, hI⟩⟩
  | ret =>
    cases hr'
    exact fun h0 hp => ⟨hp, Nat.le_refl _, fun μ0 A0 w0 M hfr hM hG a w hI => wp_ret ⟨rfl, hI⟩⟩
  | region id ops d =>
    cases d with
    | false => exact cRegS_ok hcall hbody hr'
    | true => exact cRegD_ok hm hcall hbody hr'
  | _ => cases hr'
end
end Go.X
