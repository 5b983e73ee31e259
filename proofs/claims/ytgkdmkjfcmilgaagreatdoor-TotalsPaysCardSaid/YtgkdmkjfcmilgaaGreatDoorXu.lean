/- From state to state: one operation in the order of the text. -/
import Derived.Test.YtgkdmkjfcmilgaaGreatDoorXt
set_option linter.unusedVariables false
set_option linter.unusedSimpArgs false
namespace Go.X
def OpStep (P : Program) (ops : Array Oper) (G N base i : Nat) (t : T V) (h : T Blk) (nx : Nat) (tch : List Nat) (t' : T V) (h' : T Blk) (nx' : Nat) (tch' : List Nat) : Prop :=
  ∀ h0, PInv h0 base h nx tch → PInv h0 base h' nx' tch' ∧ nx ≤ nx' ∧ ∀ (μ0 : Nat → Nat × Nat) (A0 : Nat → Prop) (w0 : World) (M : Nat), (∀ id, base ≤ id → id < M → ¬ A0 id) → nx' ≤ M → (∀ g, g < G → A0 g ∧ μ0 g = (g, 0)) →
    ∀ (a : Act) (w : World) (Q : Exit → Act → World → Prop) (K' : Act → World → Prop), SInv μ0 A0 w0 base N t h nx tch a w → (∀ a' w', SInv μ0 A0 w0 base N t' h' nx' tch' a' w' → K' a' w') → wpOp P ops Q i K' a w
section
variable {P : Program} {ops : Array Oper} {G N base i : Nat} {t t' : T V} {h h' : T Blk} {nx nx' : Nat} {tch ids : List Nat} {o : Oper} {v : V} {key : K → Prop} {val : K → Option Cell}
theorem OpStep.mk (hs : Dom h nx → OpSound P ops N i o G t.get (cof h.get) key val v nx nx') (hd : ∀ d, o.dst = some d → d < N)
    (ht : ∀ i u, t'.get i = some u → (o.dst = some i ∧ u = v) ∨ (o.dst ≠ some i ∧ t.get i = some u)) (hle : nx ≤ nx')
    (hkey : ∀ k, key k → (nx ≤ k.1 ∧ k.1 < nx') ∨ (k.1 ∈ ids ∧ (cof h.get k ≠ none ∨ ∀ j, key (k.1, j))))
    (hids : ∀ i ∈ ids, ∃ j, cof h.get (i, j) ≠ none)
    (hval : ∀ k c, cof h'.get k = some c → key k → val k = some c) (hsame : ∀ k, ¬ key k → cof h'.get k = cof h.get k) (hdom : Dom h nx → Dom h' nx') :
    OpStep P ops G N base i t h nx tch t' h' nx' (adds base ids tch) := by
  intro h0 hp
  have hidn : ∀ i ∈ ids, i < nx := by
    intro i hi
    obtain ⟨j, hj⟩ := hids i hi
    cases e : cof h.get (i, j) with
    | none => exact absurd e hj
    | some c => exact hp.dom (i, j) c e
  have hp' : PInv h0 base h' nx' (adds base ids tch) := by
    refine ⟨Nat.le_trans hp.le hle, hdom hp.dom, fun k hk hn => ?_, fun i hi => ?_⟩
    · have hn1 : k.1 ∉ tch := fun e => hn (mem_adds.2 (Or.inl e))
      have hn2 : k.1 ∉ ids := fun e => hn (mem_adds.2 (Or.inr ⟨e, hk⟩))
      rw [hsame k, hp.same k hk hn1]
      intro hkk
      rcases hkey k hkk with ⟨e, _⟩ | ⟨e, _⟩
      · have := hp.le; omega
      · exact hn2 e
    · rcases mem_adds.1 hi with e | ⟨e, e2⟩
      · exact hp.tch i e
      · refine ⟨e2, ?_⟩
        by_cases e3 : i ∈ tch
        · exact (hp.tch i e3).2
        · obtain ⟨j, hj⟩ := hids i e
          exact ⟨j, by rw [← hp.same (i, j) e2 e3]; exact hj⟩
  refine ⟨hp', hle, fun μ0 A0 w0 M hfr hM hG a w Q K' hI hK => ?_⟩
  obtain ⟨μ, hI⟩ := hI
  have hI' : Inv μ0 A0 w0 base N (adds base ids tch) t.get (cof h.get) (fun id => A0 id ∨ (base ≤ id ∧ id < nx)) μ a w := by
    refine ⟨hI.defers, hI.size, hI.old, hI.tm, hI.hp, hI.inj, hI.sp, fun k c h1 h2 => ?_, hI.fr.mono ?_⟩
    · rcases hI.new k c h1 h2 with e | ⟨q, e1, e2⟩
      · exact Or.inl e
      · exact Or.inr ⟨q, mem_adds.2 (Or.inl e1), e2⟩
    · rintro b _ _ ⟨q, e1, e2⟩
      exact ⟨q, mem_adds.2 (Or.inl e1), e2⟩
  refine OpSound.step (τ' := t'.get) (η' := cof h'.get) (A' := fun id => A0 id ∨ (base ≤ id ∧ id < nx')) (hs hp.dom) hd ?_ hp.le hG hI' (fun _ _ _ h => h) (fun _ _ h => h) ?_ ?_ ht ?_ ?_ (fun a' w' μ' hi => hK a' w' ⟨μ', hi⟩)
  · intro k hk
    rcases hkey k hk with e | ⟨e, e2 | e2⟩
    · exact Or.inl e
    · exact Or.inr (Or.inl e2)
    · exact Or.inr (Or.inr ⟨hids k.1 e, e2⟩)
  · rintro id e1 e2 (e3 | ⟨e3, e4⟩)
    · exact hfr id (Nat.le_trans hp.le e1) (by omega) e3
    · omega
  · intro k j _ hk hb
    rcases hkey k hk with ⟨e, _⟩ | ⟨e, _⟩
    · have := hp.le; omega
    · exact mem_adds.2 (Or.inr ⟨e, hb⟩)
  · intro k c hc
    by_cases e : key k
    · exact Or.inl ⟨e, hval k c hc e⟩
    · exact Or.inr ⟨e, by rw [← hsame k e]; exact hc⟩
  · intro id
    constructor
    · rintro (e | ⟨e1, e2⟩)
      · exact Or.inl (Or.inl e)
      · by_cases e3 : id < nx
        · exact Or.inl (Or.inr ⟨e1, e3⟩)
        · exact Or.inr ⟨by omega, e2⟩
    · rintro ((e | ⟨e1, e2⟩) | ⟨e1, e2⟩)
      · exact Or.inl e
      · exact Or.inr ⟨e1, by omega⟩
      · have := hp.le; exact Or.inr ⟨by omega, e2⟩
/-- A cell behind an operation. -/
theorem cof_upds {upd : List Up} {acc : Nat → Option Blk} (hacc : ∀ id, acc id = h.get id) (hup : ∀ e ∈ upd, UpOK acc nx nx' e) (hdom : Dom h nx) (k : K) :
    (upKey nx nx' upd k → (∃ b, upB upd k.1 = some b) → cof (upds upd h).get k = upVal upd k) ∧ (¬ upKey nx nx' upd k → cof (upds upd h).get k = cof h.get k) := by
  have haccf : acc = h.get := funext hacc
  subst haccf
  have hg := upds_get upd h k.1
  constructor
  · rintro _ ⟨b, hb⟩
    simp only [cof, upVal, hg, hb]
  · intro hk
    cases hb : upB upd k.1 with
    | none => simp only [cof, hg, hb]
    | some b =>
      obtain ⟨e, h1, h2, h3⟩ := upB_some hb
      rcases hup e h1 with ⟨q1, q2, _⟩ | ⟨⟨j, q1⟩, q2⟩
      · exact absurd (Or.inl ⟨by omega, by omega⟩) hk
      · have hlt : e.1 < nx := by
          cases hx : cof h.get (e.1, j) with
          | none => exact absurd hx q1
          | some c => exact hdom _ c hx
        have hnot : ¬ Tch.has (e.1, e.2.1) k := fun hh => hk (Or.inr ⟨e, h1, hlt, hh⟩)
        cases hr : e.2.1 with
        | none => exact absurd ⟨h2, fun r hr' => by rw [hr] at hr'; cases hr'⟩ hnot
        | some r =>
          have := (q2 r hr).2 k.2 (fun ⟨r1, r2⟩ => hnot ⟨h2, fun r' hr' => by rw [hr] at hr'; cases hr'; exact ⟨r1, r2⟩⟩)
          rw [h2] at this
          rw [← this]
          simp only [cof, hg, hb, h3]
theorem upB_mem : ∀ {u : List Up} {e : Up}, e ∈ u → ∃ b, upB u e.1 = some b
  | [], _, h => by simp at h
  | (i, g, c) :: l, e, h => by
    simp only [upB]
    cases hx : upB l e.1 with
    | some x => exact ⟨x, rfl⟩
    | none =>
      rcases List.mem_cons.1 h with rfl | h
      · exact ⟨c, by simp⟩
      · obtain ⟨b, hb⟩ := upB_mem h; rw [hx] at hb; cases hb
/-- An operation that calls no function of the program, in the order of the text. -/
theorem OpStep.prim {upd : List Up} (hi : ops[i]? = some o) (hw : want ops t o = some true) (hok : PrimOK1 P (ev G t) h.get nx o.op v upd nx') (hd : ∀ d, o.dst = some d → d < N)
    (ht : ∀ i u, t'.get i = some u → (o.dst = some i ∧ u = v) ∨ (o.dst ≠ some i ∧ t.get i = some u)) :
    Dom h nx → OpStep P ops G N base i t h nx tch t' (upds upd h) nx' (adds base (oldIds nx upd) tch) := by
  intro hdm
  have hup := hok.2.1
  have hlt : ∀ e ∈ upd, e.1 < nx' ∧ (e.1 < nx ∨ (e.1 = nx ∧ nx' = nx + 1)) := by
    intro e he
    rcases hup e he with ⟨q1, q2, _⟩ | ⟨⟨j, q1⟩, _⟩
    · exact ⟨by omega, Or.inr ⟨q1, q2⟩⟩
    · cases hx : cof h.get (e.1, j) with
      | none => exact absurd hx q1
      | some c =>
        have : e.1 < nx := hdm _ c hx
        have := hok.1
        exact ⟨by omega, Or.inl (by omega)⟩
  refine OpStep.mk (key := upKey nx nx' upd) (val := upVal upd) (v := v) (fun hdm => OpSound.prim hi (fun _ _ h => h) hw hok hdm) hd ht hok.1 ?_ ?_ ?_ (fun k hk => (cof_upds (nx' := nx') (fun _ => rfl) hup hdm k).2 hk) ?_
  · rintro k (e | ⟨e, h1, h2, h3⟩)
    · exact Or.inl e
    · refine Or.inr ⟨mem_oldIds.2 ⟨e, h1, h3.1, by rw [← h3.1]; exact h2⟩, ?_⟩
      rcases hup e h1 with ⟨q1, _⟩ | ⟨q1, q2⟩
      · omega
      · cases hr : e.2.1 with
        | none => exact Or.inr fun j => Or.inr ⟨e, h1, h2, h3.1, fun r hr' => by rw [hr] at hr'; cases hr'⟩
        | some r =>
          obtain ⟨r1, r2⟩ := h3.2 r hr
          have := (q2 r hr).1 k.2 r1 r2
          have e1 : e.1 = k.1 := h3.1
          rw [e1] at this
          exact Or.inl this
  · intro q hq
    obtain ⟨e, h1, h2, h3⟩ := mem_oldIds.1 hq
    rcases hup e h1 with ⟨q1, _⟩ | ⟨q1, _⟩
    · omega
    · rw [h2] at q1; exact q1
  · intro k c hc hk
    cases hb : upB upd k.1 with
    | some b => rw [← (cof_upds (nx' := nx') (fun _ => rfl) hup hdm k).1 hk ⟨b, hb⟩]; exact hc
    | none =>
      exfalso
      have hh : cof (upds upd h).get k = cof h.get k := by simp only [cof, upds_get upd h k.1, hb]
      rw [hh] at hc
      have := hdm k c hc
      rcases hk with ⟨e, _⟩ | ⟨e, h1, h2, h3⟩
      · omega
      · obtain ⟨b, hb'⟩ := upB_mem h1
        rw [h3.1, hb] at hb'; cases hb'
  · intro hdm k c hc
    cases hb : upB upd k.1 with
    | some b =>
      obtain ⟨e, h1, h2, _⟩ := upB_some hb
      rw [← h2]; exact (hlt e h1).1
    | none =>
      have hh : cof (upds upd h).get k = cof h.get k := by simp only [cof, upds_get upd h k.1, hb]
      rw [hh] at hc
      have := hdm k c hc; have := hok.1; omega
/-- A call, in the order of the text. -/
theorem OpStep.call {fo : Operand} {args : List Operand} {g : FuncId} {caps vs : List V} {r : Ans} (hbody : ∀ (g : FuncId) (F : Func), P.funcs[g]? = some F → (F.name == "runtime.NumGoroutine") = false)
    (hi : ops[i]? = some o) (hw : want ops t o = some true) (hds : dsp o.op = .call fo args) (hf : ev G t fo = some (.fn g caps)) (ha : evs (ev G t) args = some vs) (hg : ∃ F c, P.funcs[g]? = some F ∧ F.body = some c)
    (hp : CallPure h nx r) (hs : CallSem P G g (vs ++ caps) h nx r) (hd : ∀ d, o.dst = some d → d < N)
    (ht : ∀ i u, t'.get i = some u → (o.dst = some i ∧ u = r.v) ∨ (o.dst ≠ some i ∧ t.get i = some u)) :
    OpStep P ops G N base i t h nx tch t' r.h r.nx (adds base r.tch tch) := by
  refine OpStep.mk (key := callKey nx r) (val := cof r.h.get) (v := r.v) (fun _ => OpSound.call hbody hi (fun _ _ h => h) hw hds hf ha hg hs) hd ht hp.le ?_ (fun q hq => (hp.tch q hq).2) (fun _ _ hc _ => hc) hp.same (fun _ => hp.dom)
  rintro k (e | e)
  · exact Or.inl e
  · exact Or.inr ⟨e, Or.inr fun j => Or.inr e⟩
theorem op1_ok {γ : Type} {call : CallT} {k : Kont γ} {r : γ} (hcall : CallOK P G call) (hbody : ∀ (g : FuncId) (F : Func), P.funcs[g]? = some F → (F.name == "runtime.NumGoroutine") = false) (hi : ops[i]? = some o)
    (hr : op1 P G call ops base N o t h nx tch k = .ok r) : ∃ t' h' nx' tch', k t' h' nx' tch' = .ok r ∧ (Dom h nx → OpStep P ops G N base i t h nx tch t' h' nx' tch') := by
  obtain ⟨b, hw, h2⟩ := oR_ok.1 hr
  cases b with
  | false =>
    obtain ⟨t', h3, h4, h5⟩ := putK_ok (N := N) h2
    refine ⟨t', h, nx, tch, h3, fun _ => ?_⟩
    exact OpStep.mk (ids := []) (key := fun _ => False) (val := fun _ => none) (v := .tup []) (fun _ => OpSound.skip hi (fun _ _ h => h) hw fun _ h => h) h4 h5 (Nat.le_refl _) (fun _ h => h.elim) (fun _ h => by simp at h) (fun _ _ _ h => h.elim) (fun _ _ => rfl) id
  | true =>
    cases hds : dsp o.op with
    | prim p =>
      simp only [hds] at h2
      obtain ⟨pr, h3, h4⟩ := oR_ok.1 h2
      have hok := dsp_prim hds h3
      cases pr with
      | pure v =>
        obtain ⟨t', h5, h6, h7⟩ := putK_ok (N := N) h4
        exact ⟨t', h, nx, tch, h5, OpStep.prim (upd := []) hi hw hok h6 h7⟩
      | eff v upd nx' =>
        simp only [updK_eq, addsK_eq] at h4
        obtain ⟨t', h5, h6, h7⟩ := putK_ok (N := N) h4
        exact ⟨t', _, _, _, h5, OpStep.prim hi hw hok h6 h7⟩
    | call fo args =>
      simp only [hds] at h2
      obtain ⟨gv, h3, h4⟩ := oR_ok.1 h2
      obtain ⟨vs, h5, h6⟩ := oR_ok.1 h4
      obtain ⟨an, h7, h8⟩ := rb_ok.1 h6
      obtain ⟨vf, h9, h10⟩ := ob_some.1 h3
      obtain ⟨g, caps⟩ := gv
      have := asFn_some h10; subst this
      obtain ⟨hF, hC⟩ := hcall _ _ _ _ _ h7
      obtain ⟨v, h', nx', tc⟩ := an
      simp only [addsK_eq] at h8
      obtain ⟨t', h11, h12, h13⟩ := putK_ok (N := N) h8
      exact ⟨t', h', nx', _, h11, fun hdm => OpStep.call (r := ⟨v, h', nx', tc⟩) hbody hi hw hds h9 h5 hF (hC hdm).1 (hC hdm).2 h12 h13⟩
end
end Go.X
