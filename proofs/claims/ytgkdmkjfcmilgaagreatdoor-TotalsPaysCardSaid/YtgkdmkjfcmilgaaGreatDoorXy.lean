/- A region that leaves its order open, whole. -/
import Derived.Test.YtgkdmkjfcmilgaaGreatDoorXx
set_option linter.unusedVariables false
set_option linter.unusedSimpArgs false
namespace Go.X
section
variable {P : Program} {ops : Array Oper} {G N base : Nat}
/-- What an operation may look at is there, and no earlier one that is not ordered with it has turned it. -/
theorem accD_see {f : Operand → Option V} {h : T Blk} {U : List Rec2} {op : Op} (k : K) (c : Cell) (hk : cof (accD f h U op) k = some c) : cof h.get k = some c ∧ ∀ q ∈ U, ¬ q.key k := by
  have hid : hidW k.1 U = false → ∀ q ∈ U, ¬ q.key k := fun h q hq => hidW_false h q hq k.2
  unfold accD at hk
  cases hn : need op with
  | nothing => rw [hn] at hk; cases hk
  | load a =>
    rw [hn] at hk
    simp only at hk
    unfold accLoad at hk
    cases hp : ob (f a) asPtr with
    | none => rw [hp] at hk; cases hk
    | some p =>
      rw [hp] at hk
      simp only [cof, accB, nbeq] at hk
      by_cases e : k.1 = p.1
      · simp only [e, decide_true] at hk
        simp only [gd, ib_eq] at hk
        by_cases e2 : hidW p.1 U = true
        · rw [if_pos e2] at hk; cases hk
        · rw [if_neg e2] at hk
          refine ⟨by simp only [cof, e]; exact hk, hid (by rw [e]; simpa using e2)⟩
      · simp only [e, decide_false, gd] at hk; cases hk
  | store a x =>
    rw [hn] at hk
    simp only at hk
    unfold accStore at hk
    cases hp : ob (f a) asPtr with
    | none => rw [hp] at hk; cases hk
    | some p =>
      rw [hp] at hk
      simp only at hk
      cases hx : f x with
      | none => rw [hx] at hk; cases hk
      | some v =>
        rw [hx] at hk
        simp only [cof, accB, nbeq] at hk
        by_cases e : k.1 = p.1
        · simp only [e, decide_true] at hk
          simp only [gd, ib_eq] at hk
          by_cases e2 : hidC p.1 p.2 (p.2 + len v.cells 0) U = true
          · rw [if_pos e2] at hk; cases hk
          · rw [if_neg e2] at hk
            cases hc : cellsOf h.get p.1 with
            | none => rw [hc] at hk; cases hk
            | some q =>
              obtain ⟨n, cc⟩ := q
              rw [hc] at hk
              simp only [ob2] at hk
              cases ho : onlyC cc p.2 (len v.cells 0) with
              | none => rw [ho] at hk; cases hk
              | some c' =>
                rw [ho] at hk
                simp only [ob, Option.map_eq_some_iff] at hk
                obtain ⟨u, h1, rfl⟩ := hk
                obtain ⟨l, h2, h3⟩ := ob_some.1 ho
                obtain ⟨h4, h5⟩ := takeC_some h2
                obtain ⟨_, h6⟩ := ofL_some h3
                rw [h6 k.2] at h1
                by_cases e3 : p.2 ≤ k.2 ∧ k.2 < p.2 + l.length
                · rw [if_pos e3] at h1
                  have h7 := h5 _ u h1
                  rw [show p.2 + (k.2 - p.2) = k.2 by omega] at h7
                  refine ⟨by simp only [cof, e, cellsOf_some hc, h7, Option.map_some], fun q hq => ?_⟩
                  have := hidC_false (by simpa using e2) q hq k.2 e3.1 (by rw [← h4]; exact e3.2)
                  rw [← e] at this; exact this
                · rw [if_neg e3, T.get_e] at h1; cases h1
        · simp only [e, decide_false, gd] at hk; cases hk
  | all =>
    rw [hn] at hk
    simp only [cof, accAll, ib_eq] at hk
    by_cases e : hidW k.1 U = true
    · rw [if_pos e] at hk; cases hk
    · rw [if_neg e] at hk
      exact ⟨hk, hid (by simpa using e)⟩
theorem opD_ok {γ : Type} {call : CallT} {k : KontD γ} {res : γ} {ms : List Nat} {tS t : T V} {hS h h0 : T Blk} {nxS nx : Nat} {recs : List Rec2} {tch chS : List Nat} {o : Oper} (hcall : CallOK P G call)
    (hbody : ∀ (g : FuncId) (F : Func), P.funcs[g]? = some F → (F.name == "runtime.NumGoroutine") = false) (hi : ops[recs.length]? = some o)
    (hT : TI P ops G N base (fun i j => tb (ms.getD i 0) j) tS hS nxS chS h0 recs t h nx tch)
    (hr : opD P G call ops base N recs.length (ms.getD recs.length 0) o t h nx tch recs k = .ok res) :
    ∃ t' h' nx' tch' r, k t' h' nx' tch' r = .ok res ∧ TI P ops G N base (fun i j => tb (ms.getD i 0) j) tS hS nxS chS h0 (r :: recs) t' h' nx' tch' := by
  have hdm := hT.pinv.dom
  obtain ⟨b, hw, h2⟩ := oR_ok.1 hr
  have hU : ∀ q ∈ recs, tb (ms.getD recs.length 0) q.i = false → q ∈ unord (ms.getD recs.length 0) recs := fun q hq hp => unord_mem.2 ⟨hq, hp⟩
  cases b with
  | false =>
    obtain ⟨t', h3, h4, h5⟩ := putK_ok (N := N) h2
    refine ⟨t', h, nx, tch, _, h3, TI.step (ids := []) (o := o) hT rfl hi rfl h4 (OpSound.skip hi hT.tm hw ?_) rfl rfl (Nat.le_refl _) (fun e he => by simp at he) rfl ?_ ?_ ?_ ?_ ?_ ?_ hdm h5⟩
    · rintro k (⟨q1, q2⟩ | ⟨e, q, _⟩)
      · simp only at q1 q2; omega
      · simp at q
    · intro k c hk; cases hk
    · rintro k ⟨e, q, _⟩; simp at q
    · rintro _ _ _ k ⟨e, q, _⟩; simp at q
    · rintro k ⟨e, q, _⟩; simp at q
    · intro i hi; simp at hi
    · intro k _; rfl
  | true =>
    cases hds : dsp o.op with
    | prim p =>
      simp only [hds] at h2
      obtain ⟨pr, h3, h4⟩ := oR_ok.1 h2
      have hok := dsp_prim hds h3
      have hsee : ∀ k c, cof (accD (ev G t) h (unord (ms.getD recs.length 0) recs) o.op) k = some c → cof h.get k = some c ∧ ∀ q ∈ recs, tb (ms.getD recs.length 0) q.i = false → ¬ q.key k := fun k c hk =>
        ⟨(accD_see k c hk).1, fun q hq hp => (accD_see k c hk).2 q (hU q hq hp)⟩
      have hdacc : ∀ k c, cof (accD (ev G t) h (unord (ms.getD recs.length 0) recs) o.op) k = some c → k.1 < nx := fun k c hk => hdm k c (hsee k c hk).1
      cases pr with
      | pure v =>
        obtain ⟨t', h5, h6, h7⟩ := putK_ok (N := N) h4
        have hok' : PrimOK1 P (ev G t) (accD (ev G t) h (unord (ms.getD recs.length 0) recs) o.op) nx o.op v [] nx := hok
        refine ⟨t', h, nx, tch, _, h5, TI.step (ids := []) (o := o) hT rfl hi rfl h6 (OpSound.congr (OpSound.prim hi hT.tm hw hok' hdacc) ?_ ?_) rfl rfl (Nat.le_refl _) (fun e he => by simp at he) rfl hsee ?_ ?_ ?_ ?_ ?_ hdm h7⟩
        · intro k
          constructor
          · rintro (⟨q1, q2⟩ | ⟨e, q, _⟩)
            · simp only at q1 q2; omega
            · simp at q
          · rintro (⟨q1, q2⟩ | ⟨e, q, _⟩)
            · omega
            · simp at q
        · rintro k c (⟨q1, q2⟩ | ⟨e, q, _⟩)
          · omega
          · simp at q
        · rintro k ⟨e, q, _⟩; simp at q
        · rintro _ _ _ k ⟨e, q, _⟩; simp at q
        · rintro k ⟨e, q, _⟩; simp at q
        · intro i hi; simp at hi
        · intro k _; rfl
      | eff v upd nx' =>
        simp only [ib_eq] at h4
        split at h4
        · rename_i hlate
          split at h4
          · rename_i hwh
            have hok' : PrimOK1 P (ev G t) (accD (ev G t) h (unord (ms.getD recs.length 0) recs) o.op) nx o.op v upd nx' := hok
            obtain ⟨h', h5, u1, u2, u3⟩ := updDK_ok h4 hok'.2.1 hok'.1 (fun k c hk => (hsee k c hk).1) hdm
            simp only [addsK_eq] at h5
            obtain ⟨t', h6, h7, h8⟩ := putK_ok (N := N) h5
            have hold : ∀ k, (∃ e ∈ oldTch nx upd, Tch.has e k) ↔ ∃ e ∈ upd, e.1 < nx ∧ Tch.has (e.1, e.2.1) k := by
              intro k
              constructor
              · rintro ⟨e, q1, q2⟩
                obtain ⟨e', q3, q4, rfl⟩ := mem_oldTch.1 q1
                exact ⟨e', q3, q4, q2⟩
              · rintro ⟨e, q1, q2, q3⟩
                exact ⟨_, mem_oldTch.2 ⟨e, q1, q2, rfl⟩, q3⟩
            have hkeyI : ∀ k, (((nx ≤ k.1 ∧ k.1 < nx') ∨ ∃ e ∈ oldTch nx upd, Tch.has e k) ↔ upKey nx nx' upd k) := fun k => by
              rw [hold k]; exact Iff.rfl
            refine ⟨t', h', nx', _, _, h6, TI.step (ids := oldIds nx upd) (o := o) hT rfl hi rfl h7 (OpSound.congr (OpSound.prim hi hT.tm hw hok' hdacc) hkeyI (fun k c q1 q2 => u2 k c q2 q1)) rfl rfl hok'.1 (fun e he => by obtain ⟨e', q3, q4, rfl⟩ := mem_oldTch.1 he; exact q4) rfl hsee ?_ ?_ ?_ ?_
              (fun k hk => u1 k fun e => hk ((hkeyI k).2 e)) u3 h8⟩
            · rintro k hk
              obtain ⟨e, q1, q2, q3⟩ := (hold k).1 hk
              rcases hok'.2.1 e q1 with ⟨q4, _⟩ | ⟨⟨j, q4⟩, q5⟩
              · omega
              · cases hr : e.2.1 with
                | some r =>
                  obtain ⟨r1, r2⟩ := q3.2 r hr
                  have := (q5 r hr).1 k.2 r1 r2
                  have e1 : e.1 = k.1 := q3.1
                  rw [e1] at this
                  exact Or.inl this
                | none =>
                  have e1 : e.1 = k.1 := q3.1
                  rw [e1] at q4
                  refine Or.inr ⟨⟨j, q4⟩, fun j' => ⟨(e.1, e.2.1), mem_oldTch.2 ⟨e, q1, q2, rfl⟩, e1, fun r hr' => by simp only at hr'; rw [hr] at hr'; cases hr'⟩, fun q hq hp j' => ?_⟩
                  have hw2 := whB_true hwh (e.1, e.2.1) (mem_oldTch.2 ⟨e, q1, q2, rfl⟩) hr
                  simp only [e1] at hw2
                  exact hidW_false hw2 q (hU q hq hp) j'
            · rintro q hq hp k hk
              obtain ⟨e, q1, q2⟩ := hk
              exact late1_true (lateB_true hlate q (hU q hq hp)) e q1 k q2
            · rintro k hk
              obtain ⟨e, q1, q2, q3⟩ := (hold k).1 hk
              exact mem_oldIds.2 ⟨e, q1, q3.1, by rw [← q3.1]; exact q2⟩
            · intro i hi
              obtain ⟨e, q1, q2, q3⟩ := mem_oldIds.1 hi
              rcases hok'.2.1 e q1 with ⟨q4, _⟩ | ⟨⟨j, q4⟩, _⟩
              · omega
              · refine ⟨j, ?_⟩
                rw [q2] at q4
                cases hx : cof (accD (ev G t) h (unord (ms.getD recs.length 0) recs) o.op) (i, j) with
                | none => exact absurd hx q4
                | some c => rw [(hsee _ c hx).1]; simp
          · cases h4
        · cases h4
    | call fo args =>
      simp only [hds] at h2
      obtain ⟨gv, h3, h4⟩ := oR_ok.1 h2
      obtain ⟨vs, h5, h6⟩ := oR_ok.1 h4
      rw [killK_eq] at h6
      obtain ⟨an, h7, h8⟩ := rb_ok.1 h6
      obtain ⟨vf, h9, h10⟩ := ob_some.1 h3
      obtain ⟨g, caps⟩ := gv
      have := asFn_some h10; subst this
      obtain ⟨hF, hC⟩ := hcall _ _ _ _ _ h7
      have hkc : ∀ k c, cof (kill (keysL (unord (ms.getD recs.length 0) recs)) h).get k = some c → cof h.get k = some c ∧ k.1 ∉ keysL (unord (ms.getD recs.length 0) recs) := by
        intro k c hk
        by_cases e : k.1 ∈ keysL (unord (ms.getD recs.length 0) recs)
        · simp only [cof, kill_get, if_pos e] at hk; cases hk
        · simp only [cof, kill_get, if_neg e] at hk; exact ⟨hk, e⟩
      obtain ⟨hCp, hCs⟩ := hC fun k c hk => hdm k c (hkc k c hk).1
      obtain ⟨v, h1, nx', tc⟩ := an
      simp only [ib_eq] at h8
      split at h8
      · split at h8
        · rename_i hlate
          rw [backK_eq] at h8
          simp only [addsK_eq] at h8
          obtain ⟨t', h11, h12, h13⟩ := putK_ok (N := N) h8
          have hsee : ∀ k c, cof (kill (keysL (unord (ms.getD recs.length 0) recs)) h).get k = some c → cof h.get k = some c ∧ ∀ q ∈ recs, tb (ms.getD recs.length 0) q.i = false → ¬ q.key k := fun k c hk =>
            ⟨(hkc k c hk).1, fun q hq hp hqk => (hkc k c hk).2 (key_keysL (hU q hq hp) hqk)⟩
          have hold : ∀ k, (∃ e ∈ wholeT tc, Tch.has e k) ↔ k.1 ∈ tc := by
            intro k
            constructor
            · rintro ⟨e, q1, q2⟩
              obtain ⟨i, q3, rfl⟩ := mem_wholeT.1 q1
              have : i = k.1 := q2.1
              rw [← this]; exact q3
            · intro q
              exact ⟨(k.1, none), mem_wholeT.2 ⟨k.1, q, rfl⟩, rfl, fun r hr => by cases hr⟩
          have hkeyI : ∀ k, (((nx ≤ k.1 ∧ k.1 < nx') ∨ ∃ e ∈ wholeT tc, Tch.has e k) ↔ callKey nx ⟨v, h1, nx', tc⟩ k) := fun k => by
            rw [hold k]; exact Iff.rfl
          have htc : ∀ i ∈ tc, ∃ j c, cof (kill (keysL (unord (ms.getD recs.length 0) recs)) h).get (i, j) = some c := by
            intro i hi
            obtain ⟨_, j, hj⟩ := hCp.tch i hi
            cases hx : cof (kill (keysL (unord (ms.getD recs.length 0) recs)) h).get (i, j) with
            | none => exact absurd hx hj
            | some c => exact ⟨j, c, hx⟩
          have hlow : ∀ i ∈ keysL (unord (ms.getD recs.length 0) recs), i < nx := by
            intro i hi
            obtain ⟨q, q1, q2⟩ := mem_keysL.1 hi
            have hq := (unord_mem.1 q1).1
            have hqh := hT.hi q hq
            rcases q2 with ⟨e, e1, e2⟩ | q2
            · have := hT.tl q hq e e1
              omega
            · omega
          have hcof : ∀ k, k.1 ∉ keysL (unord (ms.getD recs.length 0) recs) → cof (back h (keysL (unord (ms.getD recs.length 0) recs)) h1).get k = cof h1.get k := by
            intro k hk
            simp only [cof, back_get, hk, false_and, if_false]
          have hdomB : Dom (back h (keysL (unord (ms.getD recs.length 0) recs)) h1) nx' := by
            intro k c hk
            by_cases e : k.1 ∈ keysL (unord (ms.getD recs.length 0) recs)
            · have := hlow _ e; have := hCp.le; simp only at this; omega
            · rw [hcof k e] at hk; exact hCp.dom k c hk
          refine ⟨t', _, nx', _, _, h11, TI.step (ids := tc) (o := o) hT rfl hi rfl h12 (OpSound.congr (OpSound.call (r := ⟨v, h1, nx', tc⟩) hbody hi hT.tm hw hds h9 h5 hF hCs) hkeyI ?_) rfl rfl hCp.le (fun e he => by obtain ⟨i, q3, rfl⟩ := mem_wholeT.1 he; exact (hCp.tch i q3).1) rfl hsee ?_ ?_ ?_ ?_ ?_ hdomB h13⟩
          · intro k c hk hc
            have hk' : k.1 ∉ keysL (unord (ms.getD recs.length 0) recs) := by
              rcases hk with ⟨q1, _⟩ | q
              · intro e; have := hlow _ e; omega
              · obtain ⟨j, c', hx⟩ := htc k.1 q
                exact (hkc _ c' hx).2
            have : cof (back h (keysL (unord (ms.getD recs.length 0) recs)) h1).get k = some c := hc
            rw [hcof k hk'] at this; exact this
          · rintro k hk
            have hk' := (hold k).1 hk
            obtain ⟨j, c', hx⟩ := htc k.1 hk'
            refine Or.inr ⟨⟨j, by show cof (kill (keysL (unord (ms.getD recs.length 0) recs)) h).get (k.1, j) ≠ none; rw [hx]; simp⟩, fun j' => (hold (k.1, j')).2 hk', fun q hq hp j' hqk => ?_⟩
            exact (hkc _ c' hx).2 (key_keysL (k := (k.1, j')) (hU q hq hp) hqk)
          · rintro q hq hp k hk
            obtain ⟨e, q1, q2⟩ := hk
            exact late1_true (lateB_true hlate q (hU q hq hp)) e q1 k q2
          · rintro k hk; exact (hold k).1 hk
          · intro i hi
            obtain ⟨j, c', hx⟩ := htc i hi
            exact ⟨j, by rw [(hkc _ c' hx).1]; simp⟩
          · intro k hk
            by_cases e : k.1 ∈ keysL (unord (ms.getD recs.length 0) recs)
            · by_cases e2 : h.get k.1 = none
              · have hn : ¬ callKey nx ⟨v, h1, nx', tc⟩ k := fun q => hk ((hkeyI k).2 q)
                have h14 := hCp.same k hn
                have hkn : cof (kill (keysL (unord (ms.getD recs.length 0) recs)) h).get k = none := by simp only [cof, kill_get, if_pos e]
                have hb : cof (back h (keysL (unord (ms.getD recs.length 0) recs)) h1).get k = cof h1.get k := by simp only [cof, back_get, e2, ne_eq, not_true_eq_false, and_false, if_false]
                rw [hb]
                simp only at h14
                rw [h14, hkn]
                simp only [cof, e2]
              · simp only [cof, back_get, e, e2, ne_eq, not_false_eq_true, and_self, if_true]
            · have hn : ¬ callKey nx ⟨v, h1, nx', tc⟩ k := fun q => hk ((hkeyI k).2 q)
              have h14 := hCp.same k hn
              simp only at h14
              rw [hcof k e, h14]
              simp only [cof, kill_get, if_neg e]
        · cases h8
      · cases h8
end
end Go.X
