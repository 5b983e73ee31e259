/- Code: regions in the order of the text, branches, loops. -/
import Derived.Test.YtgkdmkjfcmilgaaGreatDoorXu
set_option linter.unusedVariables false
set_option linter.unusedSimpArgs false
namespace Go.X
/-- From the head of a round. -/
def LoopWp (P : Program) (c : Code) (Q : Exit → Act → World → Prop) (a : Act) (w : World) : Prop :=
  ∀ (b : Frame) (k : List Item) (cs : List Frame), ∃ e a' w', Q e a' w' ∧ Arrives P (lone (b.at a (.code c :: .inLoop c :: k)) cs w) b k cs e a' w'
def wpX (P : Program) (c : Code) (Q : Exit → Act → World → Prop) (a : Act) (w : World) : Prop := match c with
  | .loop b => LoopWp P b Q a w
  | c => c.wp P Q a w
section
variable {P : Program} {Q : Exit → Act → World → Prop} {a : Act} {w : World}
theorem LoopWp.wp {c : Code} (h : LoopWp P c Q a w) : (Code.loop c).wp P Q a w := by
  intro b k cs
  obtain ⟨e, a', w', hq, harr⟩ := h b k cs
  exact ⟨e, a', w', hq, .of_steps (.one step_loop) harr⟩
theorem wpX.wp {c : Code} (h : wpX P c Q a w) : c.wp P Q a w := by
  cases c <;> first | exact h | exact LoopWp.wp h
theorem LoopWp.round {c : Code} (h : c.wp P (Exit.then (LoopWp P c Q) Q) a w) : LoopWp P c Q a w := by
  intro b k cs
  obtain ⟨e, a₁, w₁, hq, harr⟩ := h b (.inLoop c :: k) cs
  cases e with
  | normal =>
    obtain ⟨e₂, a₂, w₂, hq₂, harr₂⟩ := hq b k cs
    exact ⟨e₂, a₂, w₂, hq₂, .of_steps (Steps.trans harr (.one step_inLoop)) harr₂⟩
  | exit id => exact ⟨_, a₁, w₁, hq, .pass (x := .inLoop c) rfl (fun _ _ => .inl (by simp)) harr⟩
  | goto l => exact ⟨_, a₁, w₁, hq, .pass (x := .inLoop c) rfl (fun _ _ => .inl (by simp)) harr⟩
  | ret => exact ⟨_, a₁, w₁, hq, .pass (x := .inLoop c) rfl (fun _ _ => .inl (by simp)) harr⟩
  | panic ch => exact ⟨_, a₁, w₁, hq, .pass (x := .inLoop c) rfl (fun _ _ => .inl (by simp)) harr⟩
  | outgrown => exact ⟨_, a₁, w₁, hq, .pass (x := .inLoop c) rfl (fun _ _ => .inl (by simp)) harr⟩
end
def exitOf : Ex → Exit
  | .normal => .normal
  | .exit id => .exit id
  | .ret => .ret
def CodeStep (P : Program) (G base N : Nat) (c : Code) (ex : Ex) (s s' : St) : Prop :=
  ∀ h0, PInv h0 base s.h s.nx s.tch → PInv h0 base s'.h s'.nx s'.tch ∧ s.nx ≤ s'.nx ∧ ∀ (μ0 : Nat → Nat × Nat) (A0 : Nat → Prop) (w0 : World) (M : Nat), (∀ id, base ≤ id → id < M → ¬ A0 id) → s'.nx ≤ M → (∀ g, g < G → A0 g ∧ μ0 g = (g, 0)) →
    ∀ (a : Act) (w : World), SInv μ0 A0 w0 base N s.t s.h s.nx s.tch a w → wpX P c (fun e a' w' => e = exitOf ex ∧ SInv μ0 A0 w0 base N s'.t s'.h s'.nx s'.tch a' w') a w
def RunOK (P : Program) (G : Nat) (self : Runner) : Prop := ∀ base N c s ex s', self base N c s = .ok (ex, s') → CodeStep P G base N c ex s s'
section
variable {P : Program} {ops : Array Oper} {G N base : Nat}
theorem regS_ok {γ : Type} {call : CallT} {k : Kont γ} {r : γ} (hcall : CallOK P G call) (hbody : ∀ (g : FuncId) (F : Func), P.funcs[g]? = some F → (F.name == "runtime.NumGoroutine") = false) :
    ∀ (l : List Oper) (i : Nat) (t : T V) (h : T Blk) (nx : Nat) (tch : List Nat), (∀ j o, l[j]? = some o → ops[i + j]? = some o) → regS P G call ops base N k l t h nx tch = .ok r →
      ∃ t' h' nx' tch', k t' h' nx' tch' = .ok r ∧ ∀ h0, PInv h0 base h nx tch → PInv h0 base h' nx' tch' ∧ nx ≤ nx' ∧ ∀ (μ0 : Nat → Nat × Nat) (A0 : Nat → Prop) (w0 : World) (M : Nat), (∀ id, base ≤ id → id < M → ¬ A0 id) → nx' ≤ M →
        (∀ g, g < G → A0 g ∧ μ0 g = (g, 0)) → ∀ (a : Act) (w : World), SInv μ0 A0 w0 base N t h nx tch a w →
          wpOps P ops (fun e a' w' => e = .normal ∧ SInv μ0 A0 w0 base N t' h' nx' tch' a' w') (List.range' i l.length) a w
  | [], i, t, h, nx, tch, _, hr => ⟨t, h, nx, tch, hr, fun h0 hp => ⟨hp, Nat.le_refl _, fun _ _ _ _ _ _ _ a w hI => ⟨rfl, hI⟩⟩⟩
  | o :: l, i, t, h, nx, tch, hl, hr => by
    obtain ⟨t1, h1, nx1, tch1, hk1, hs1⟩ := op1_ok (i := i) hcall hbody (hl 0 o rfl) (show op1 P G call ops base N o t h nx tch (regS P G call ops base N k l) = .ok r from hr)
    obtain ⟨t', h', nx', tch', hk2, hs2⟩ := regS_ok hcall hbody l (i + 1) t1 h1 nx1 tch1 (fun j o' hj => by
      have := hl (j + 1) o' (by simpa using hj)
      rw [show i + 1 + j = i + (j + 1) by omega]; exact this) hk1
    refine ⟨t', h', nx', tch', hk2, fun h0 hp => ?_⟩
    obtain ⟨hp1, hle1, hw1⟩ := hs1 hp.dom h0 hp
    obtain ⟨hp2, hle2, hw2⟩ := hs2 h0 hp1
    refine ⟨hp2, Nat.le_trans hle1 hle2, fun μ0 A0 w0 M hfr hM hG a w hI => ?_⟩
    rw [List.length_cons, List.range'_succ, wpOps_cons]
    exact hw1 μ0 A0 w0 M hfr (Nat.le_trans hle2 hM) hG a w _ _ hI fun a' w' hI' => hw2 μ0 A0 w0 M hfr hM hG a' w' hI'
theorem okK_ok {t : T V} {h : T Blk} {nx : Nat} {tch : List Nat} {r : Ex × St} (hr : okK t h nx tch = .ok r) : r = (.normal, ⟨t, h, nx, tch⟩) := by cases hr; rfl
theorem cRegS_ok {call : CallT} {id : Nat} {s s' : St} {ex : Ex} (hcall : CallOK P G call) (hbody : ∀ (g : FuncId) (F : Func), P.funcs[g]? = some F → (F.name == "runtime.NumGoroutine") = false)
    (hr : (stRec s fun t h nx tch => regS P G call ops base N okK ops.toList t h nx tch) = .ok (ex, s')) : CodeStep P G base N (.region id ops false) ex s s' := by
  obtain ⟨t, h, nx, tch⟩ := s
  obtain ⟨t', h', nx', tch', hk, hs⟩ := regS_ok hcall hbody ops.toList 0 t h nx tch (fun j o hj => by rw [Nat.zero_add, ← Array.getElem?_toList]; exact hj) hr
  have := okK_ok hk
  obtain ⟨rfl, rfl⟩ := Prod.mk.inj this
  intro h0 hp
  obtain ⟨hp', hle, hw⟩ := hs h0 hp
  refine ⟨hp', hle, fun μ0 A0 w0 M hfr hM hG a w hI => ?_⟩
  have := hw μ0 A0 w0 M hfr hM hG a w hI
  refine wp_region ?_
  rw [List.range_eq_range', ← Array.length_toList]
  exact this
end
end Go.X
