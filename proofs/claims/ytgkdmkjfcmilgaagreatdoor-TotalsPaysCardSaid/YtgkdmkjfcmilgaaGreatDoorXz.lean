/- What the executor has seen of the text of a region that leaves its order open; the region. -/
import Derived.Test.YtgkdmkjfcmilgaaGreatDoorXy
set_option linter.unusedVariables false
set_option linter.unusedSimpArgs false
namespace Go.X
theorem tb_eq (m n : Nat) : tb m n = m.testBit n := by
  unfold tb Nat.testBit
  rw [nbeq]
  rfl
theorem mask1_bit (acc : List Nat) (k : Nat) : ∀ (l : List Edge) (m : Nat), tb (mask1 acc l m) k = true → tb m k = true ∨ ∃ e ∈ l, Region.binds .any e = true ∧ (k = e.on ∨ tb (acc.getD e.on 0) k = true)
  | [], m, h => Or.inl h
  | e :: l, m, h => by
    unfold mask1 at h
    rw [ib_eq] at h
    split at h
    · rename_i hb
      rcases mask1_bit acc k l _ h with h1 | ⟨e', h1, h2⟩
      · rw [tb_eq] at h1
        have h1' : ((m ||| 1 <<< e.on) ||| acc.getD e.on 0).testBit k = true := h1
        rw [Nat.testBit_or, Nat.testBit_or, Bool.or_eq_true, Bool.or_eq_true] at h1'
        rcases h1' with (h2 | h2) | h2
        · exact Or.inl (by rw [tb_eq]; exact h2)
        · refine Or.inr ⟨e, by simp, hb, Or.inl ?_⟩
          rw [Nat.one_shiftLeft, Nat.testBit_two_pow] at h2
          simpa using (of_decide_eq_true h2).symm
        · exact Or.inr ⟨e, by simp, hb, Or.inr (by rw [tb_eq]; exact h2)⟩
      · exact Or.inr ⟨e', by simp [h1], h2⟩
    · rcases mask1_bit acc k l _ h with h1 | ⟨e', h1, h2⟩
      · exact Or.inl h1
      · exact Or.inr ⟨e', by simp [h1], h2⟩
theorem masks_spec : ∀ (l : List Oper) (acc : List Nat), ∃ ms, masks l acc = acc ++ ms ∧ ms.length = l.length ∧ ∀ j o, l[j]? = some o → ms[j]? = some (mask1 (acc ++ ms.take j) o.after.toList 0)
  | [], acc => ⟨[], by simp [masks], rfl, fun j o h => by simp at h⟩
  | o :: l, acc => by
    obtain ⟨ms, h1, h2, h3⟩ := masks_spec l (acc ++ [mask1 acc o.after.toList 0])
    refine ⟨mask1 acc o.after.toList 0 :: ms, ?_, by simp [h2], fun j o' hj => ?_⟩
    · show num (mask1 acc o.after.toList 0) (fun m => masks l (acc ++ [m])) = _
      rw [num_eq, h1]; simp
    · cases j with
      | zero => simp at hj; subst hj; simp
      | succ j =>
        simp only [List.getElem?_cons_succ] at hj ⊢
        rw [h3 j o' hj]; simp
theorem backB_true {i : Nat} : ∀ {l : List Edge}, backB i l = true → ∀ e ∈ l, Region.binds .any e = true → e.on < i
  | [], _, e, he, _ => by simp at he
  | x :: l, h, e, he, hb => by
    unfold backB at h
    rw [ib_eq] at h
    rcases List.mem_cons.1 he with rfl | he
    · rw [if_pos hb, ib_eq, nblt] at h
      split at h
      · rename_i h2; exact of_decide_eq_true h2
      · cases h
    · split at h
      · rw [ib_eq] at h
        split at h
        · exact backB_true h e he hb
        · cases h
      · exact backB_true h e he hb
theorem apartB_true {ops : Array Oper} {o : Oper} {m : Nat} : ∀ {l : List Oper} {j : Nat}, apartB ops o m l j = true → ∀ n k, l[n]? = some k → tb m (j + n) = false → o.apart ops k = true
  | [], _, _, n, k, hk, _ => by simp at hk
  | x :: l, j, h, n, k, hk, ht => by
    unfold apartB at h
    rw [ib_eq] at h
    cases n with
    | zero =>
      simp only [List.getElem?_cons_zero, Option.some.injEq] at hk; subst hk
      rw [Nat.add_zero] at ht
      rw [ht, if_neg (by simp), ib_eq] at h
      split at h
      · rename_i h2; exact h2
      · cases h
    | succ n =>
      simp only [List.getElem?_cons_succ] at hk
      have ht' : tb m (j + 1 + n) = false := by rw [show j + 1 + n = j + (n + 1) by omega]; exact ht
      split at h
      · exact apartB_true h n k hk ht'
      · rw [ib_eq] at h
        split at h
        · exact apartB_true h n k hk ht'
        · cases h
theorem statB_true {ops : Array Oper} {al : List Oper} {ms : List Nat} : ∀ {l : List Oper} {i : Nat}, statB ops al ms l i = true → ∀ j o, l[j]? = some o → backB (i + j) o.after.toList = true ∧ apartB ops o (ms.getD (i + j) 0) (al.take (i + j)) 0 = true
  | [], _, _, j, o, hj => by simp at hj
  | x :: l, i, h, j, o, hj => by
    unfold statB at h
    rw [ib_eq] at h
    split at h
    · rename_i h1
      rw [ib_eq] at h
      split at h
      · rename_i h2
        cases j with
        | zero => simp only [List.getElem?_cons_zero, Option.some.injEq] at hj; subst hj; exact ⟨h1, h2⟩
        | succ j =>
          simp only [List.getElem?_cons_succ] at hj
          have := statB_true h j o hj
          rw [show i + 1 + j = i + (j + 1) by omega] at this; exact this
      · cases h
    · cases h
section
variable {P : Program} {ops : Array Oper} {G N base : Nat}
theorem stat_back (h : stat ops = true) (i : Nat) (o : Oper) (ho : ops[i]? = some o) : ∀ e ∈ o.after, Region.binds .any e = true → e.on < i := by
  intro e he hb
  have := (statB_true h i o (by simpa using ho)).1
  rw [Nat.zero_add] at this
  exact backB_true this e (by simpa using he) hb
theorem stat_apart (h : stat ops = true) : ∀ i k oi ok, k < i → ops[i]? = some oi → ops[k]? = some ok → tb ((masks ops.toList []).getD i 0) k = false → oi.apart ops ok = true := by
  intro i k oi ok hki hi hk ht
  have := (statB_true h i oi (by simpa using hi)).2
  rw [Nat.zero_add] at this
  refine apartB_true this k ok ?_ (by rw [Nat.zero_add]; exact ht)
  rw [List.getElem?_take, if_pos hki]; simpa using hk
theorem stat_pre (h : stat ops = true) : ∀ i k, tb ((masks ops.toList []).getD i 0) k = true → ∃ o, ops[i]? = some o ∧ ∃ e ∈ o.after, Region.binds .any e = true ∧ (k = e.on ∨ tb ((masks ops.toList []).getD e.on 0) k = true) := by
  intro i k hk
  obtain ⟨ms, h1, h2, h3⟩ := masks_spec ops.toList []
  rw [List.nil_append] at h1
  rw [h1] at hk ⊢
  cases ho : ops[i]? with
  | none =>
    have : ops.size ≤ i := by simpa using ho
    rw [List.getD_eq_getElem?_getD, List.getElem?_eq_none (by rw [h2]; simpa using this)] at hk
    rw [tb_eq] at hk; simp at hk
  | some o =>
    have hm := h3 i o (by simpa using ho)
    rw [List.getD_eq_getElem?_getD, hm, List.nil_append] at hk
    rcases mask1_bit _ k _ _ hk with h4 | ⟨e, h4, h5, h6⟩
    · rw [tb_eq] at h4; simp at h4
    · refine ⟨o, rfl, e, by simpa using h4, h5, h6.imp id fun h7 => ?_⟩
      have hlt := stat_back h i o ho e (by simpa using h4) h5
      rw [List.getD_eq_getElem?_getD, List.getElem?_take, if_pos hlt] at h7
      rw [List.getD_eq_getElem?_getD]; exact h7
theorem regD_ok {γ : Type} {call : CallT} {k : Kont γ} {res : γ} {ms0 : List Nat} {tS : T V} {hS h0 : T Blk} {nxS : Nat} {chS : List Nat} (hcall : CallOK P G call)
    (hbody : ∀ (g : FuncId) (F : Func), P.funcs[g]? = some F → (F.name == "runtime.NumGoroutine") = false) :
    ∀ (l : List Oper) (ms : List Nat) (recs : List Rec2) (t : T V) (h : T Blk) (nx : Nat) (tch : List Nat), ops.toList.drop recs.length = l → ms0.drop recs.length = ms → recs.length ≤ ops.size →
      TI P ops G N base (fun i j => tb (ms0.getD i 0) j) tS hS nxS chS h0 recs t h nx tch → regD P G call ops base N k l ms recs.length recs t h nx tch = .ok res →
      ∃ t' h' nx' tch' recs', k t' h' nx' tch' = .ok res ∧ recs'.length = ops.size ∧ TI P ops G N base (fun i j => tb (ms0.getD i 0) j) tS hS nxS chS h0 recs' t' h' nx' tch'
  | [], ms, recs, t, h, nx, tch, hl, _, hle, hT, hr => by
    refine ⟨t, h, nx, tch, recs, hr, ?_, hT⟩
    have := List.drop_eq_nil_iff.1 hl
    rw [Array.length_toList] at this
    omega
  | o :: l, [], recs, t, h, nx, tch, hl, hm, hle, hT, hr => by
    have hr' : (R.no o.pos 6 : R γ) = .ok res := hr
    cases hr'
  | o :: l, m :: ms, recs, t, h, nx, tch, hl, hm, hle, hT, hr => by
    have hr' : opD P G call ops base N recs.length m o t h nx tch recs (fun t' h' nx' tch' r => num (Nat.succ recs.length) fun i' => regD P G call ops base N k l ms i' (r :: recs) t' h' nx' tch') = .ok res := hr
    have hm1 : ms0.getD recs.length 0 = m := by
      have := congrArg (fun l => l[0]?) hm
      simp only [List.getElem?_drop, Nat.add_zero, List.getElem?_cons_zero] at this
      rw [List.getD_eq_getElem?_getD, this]; rfl
    have ho : ops[recs.length]? = some o := by
      have := congrArg (fun l => l[0]?) hl
      simp only [List.getElem?_drop, Nat.add_zero, List.getElem?_cons_zero] at this
      simpa using this
    rw [← hm1] at hr'
    obtain ⟨t1, h1, nx1, tch1, r, hk1, hT1⟩ := opD_ok hcall hbody ho hT hr'
    rw [num_eq] at hk1
    refine regD_ok hcall hbody l ms (r :: recs) t1 h1 nx1 tch1 ?_ ?_ ?_ hT1 hk1
    · rw [List.length_cons, ← List.drop_drop, hl]; rfl
    · rw [List.length_cons, ← List.drop_drop, hm]; rfl
    · have := (Array.getElem?_eq_some_iff.1 ho).1
      simp only [List.length_cons]; omega
theorem Inv.weak {μ0 : Nat → Nat × Nat} {A0 A A' : Nat → Prop} {w0 w : World} {tch : List Nat} {τ τ' : Nat → Option V} {η η' : K → Option Cell} {μ : Nat → Nat × Nat} {a : Act} (h : Inv μ0 A0 w0 base N tch τ η A μ a w)
    (hτ : ∀ i u, τ' i = some u → τ i = some u) (hη : ∀ k c, η' k = some c → η k = some c) (hA : ∀ i, A i → A' i) : Inv μ0 A0 w0 base N tch τ' η' A' μ a w := by
  have hle : Le μ μ A A' w w := ⟨hA, fun _ _ => rfl, fun _ => Nat.le_refl _⟩
  exact ⟨h.defers, h.size, fun i hi => ⟨hA i (h.old i hi).1, (h.old i hi).2⟩, fun t v ht => VR.up hle _ _ (h.tm t v (hτ t v ht)),
    fun k c h1 => ⟨hA _ (h.hp k c (hη k c h1)).1, CR.up hle rfl rfl (fun _ => rfl) c (fun _ _ _ => rfl) (h.hp k c (hη k c h1)).2⟩,
    fun k k' c c' h1 h2 => h.inj k k' c c' (hη k c h1) (hη k' c' h2), fun k c h1 => h.sp k c (hη k c h1), fun k c h1 => h.new k c (hη k c h1), h.fr⟩
theorem Inv.touch {μ0 : Nat → Nat × Nat} {A0 A : Nat → Prop} {w0 w : World} {tch tch' : List Nat} {τ : Nat → Option V} {η : K → Option Cell} {μ : Nat → Nat × Nat} {a : Act} (h : Inv μ0 A0 w0 base N tch τ η A μ a w)
    (ht : ∀ i ∈ tch, i ∈ tch') : Inv μ0 A0 w0 base N tch' τ η A μ a w :=
  ⟨h.defers, h.size, h.old, h.tm, h.hp, h.inj, h.sp, fun k c h1 h2 => (h.new k c h1 h2).imp id fun ⟨q, e1, e2⟩ => ⟨q, ht q e1, e2⟩, h.fr.mono fun b _ _ ⟨q, e1, e2⟩ => ⟨q, ht q e1, e2⟩⟩
theorem cRegD_ok {call : CallT} {id : Nat} {s s' : St} {ex : Ex} (hm : P.follows .mixedOrders = true) (hcall : CallOK P G call) (hbody : ∀ (g : FuncId) (F : Func), P.funcs[g]? = some F → (F.name == "runtime.NumGoroutine") = false)
    (hr : ib (stat ops) (stRec s fun t h nx tch => regD P G call ops base N okK ops.toList (masks ops.toList []) 0 [] t h nx tch) (.no "stat" 0) = .ok (ex, s')) : CodeStep P G base N (.region id ops true) ex s s' := by
  rw [ib_eq] at hr
  split at hr
  · rename_i hst
    obtain ⟨t, h, nx, tch⟩ := s
    have hr' : regD P G call ops base N okK ops.toList (masks ops.toList []) 0 [] t h nx tch = .ok (ex, s') := hr
    intro h0 hp
    have hT0 : TI P ops G N base (fun i j => tb ((masks ops.toList []).getD i 0) j) t h nx tch h0 [] t h nx tch :=
      ⟨trivial, fun _ _ h => h, fun _ _ h => h, by simp, by simp, hp, Nat.le_refl _, by simp, fun _ h => h⟩
    obtain ⟨t', h', nx', tch', recs, hk, hlen, hT⟩ := regD_ok hcall hbody ops.toList (masks ops.toList []) [] t h nx tch rfl rfl (Nat.zero_le _) hT0 hr'
    have := okK_ok hk
    obtain ⟨rfl, rfl⟩ := Prod.mk.inj this
    refine ⟨hT.pinv, hT.le, fun μ0 A0 w0 M hfr hM hG a w hI => ?_⟩
    obtain ⟨μ, hI⟩ := hI
    simp only at hI hM
    refine region_sound hm hT.good hlen (stat_apart hst) hG ?_ (stat_back hst) (stat_pre hst) ?_ (hI.touch hT.sub)
    · rintro r hr id h1 h2 (h3 | ⟨_, h3⟩)
      · have := hT.lo r hr
        have := hT.hi r hr
        have : base ≤ nx := hp.le
        exact hfr id (by omega) (by omega) h3
      · have := hT.lo r hr
        omega
    · intro a' w' μ' hI'
      refine ⟨rfl, μ', hI'.weak hT.tm hT.hp ?_⟩
      rintro i ((h1 | ⟨h1, h2⟩) | ⟨r, h1, _, h2, h3⟩)
      · exact Or.inl h1
      · have := hT.le
        exact Or.inr ⟨h1, by simp only; omega⟩
      · have := hT.lo r h1
        have := hT.hi r h1
        have : base ≤ nx := hp.le
        exact Or.inr ⟨by omega, by simp only; omega⟩
  · cases hr
end
end Go.X
