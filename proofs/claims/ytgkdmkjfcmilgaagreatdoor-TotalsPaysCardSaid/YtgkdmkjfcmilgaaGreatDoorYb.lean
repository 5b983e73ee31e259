/- The executor is right. -/
import Derived.Test.YtgkdmkjfcmilgaaGreatDoorYa
set_option linter.unusedVariables false
set_option linter.unusedSimpArgs false
namespace Go.X
section
variable {P : Program} {G : Nat}
theorem endF_ok {F : Func} {e : Ex} {s : St} {r : Ans} (h : endF P F e s = .ok r) : (e = .normal ∨ e = .ret) ∧ ∃ vs, resV P s.t s.h F.results.toList = some vs ∧ r = ⟨tupOf vs, s.h, s.nx, s.tch⟩ := by
  obtain ⟨t, hp, nx, tch⟩ := s
  cases e with
  | normal =>
    obtain ⟨vs, h1, h2⟩ := oR_ok.1 (show oR (resV P t hp F.results.toList) F.name 7 (fun l => .ok ⟨tupOf l, hp, nx, tch⟩) = .ok r from h)
    cases h2; exact ⟨Or.inl rfl, vs, h1, rfl⟩
  | exit i => cases h
  | ret =>
    obtain ⟨vs, h1, h2⟩ := oR_ok.1 (show oR (resV P t hp F.results.toList) F.name 7 (fun l => .ok ⟨tupOf l, hp, nx, tch⟩) = .ok r from h)
    cases h2; exact ⟨Or.inr rfl, vs, h1, rfl⟩
theorem callF_ok {self : Runner} (hself : RunOK P G self) : CallOK P G (callF P self) := by
  intro g args h nx r hr
  obtain ⟨F, hF, h2⟩ := oR_ok.1 (show oR P.funcs[g]? "" 9 _ = .ok r from hr)
  obtain ⟨c, hc, h3⟩ := oR_ok.1 h2
  obtain ⟨t0, h4, h5⟩ := argsK_eq args 0 .e (fun t => num (len args 0 + (F.ntmps - len args 0)) fun N => rb (self nx N c ⟨t, h, nx, []⟩) fun x => Prod.rec (motive := fun _ => R Ans) (fun e s => endF P F e s) x)
  have h3' : argsK args 0 .e (fun t => num (len args 0 + (F.ntmps - len args 0)) fun N => rb (self nx N c ⟨t, h, nx, []⟩) fun x => Prod.rec (motive := fun _ => R Ans) (fun e s => endF P F e s) x) = .ok r := h3
  rw [h4, num_eq, len_eq, Nat.add_zero] at h3'
  obtain ⟨⟨e, s⟩, h6, h7⟩ := rb_ok.1 h3'
  obtain ⟨he, vs, h8, rfl⟩ := endF_ok h7
  have hcs := hself nx (args.length + (F.ntmps - args.length)) c ⟨t0, h, nx, []⟩ e s h6
  refine ⟨⟨F, c, hF, hc⟩, fun hdom => ?_⟩
  have hp0 : PInv h nx h nx [] := ⟨Nat.le_refl _, hdom, fun _ _ _ => rfl, by simp⟩
  obtain ⟨hp, hle, hw⟩ := hcs h hp0
  simp only at hle hw
  refine ⟨⟨hle, hp.dom, fun k hk => ?_, hp.tch⟩, ?_⟩
  · have hk1 : ¬ (nx ≤ k.1 ∧ k.1 < s.nx) := fun q => hk (Or.inl q)
    have hk2 : k.1 ∉ s.tch := fun q => hk (Or.inr q)
    show cof s.h.get k = cof h.get k
    by_cases e : k.1 < nx
    · exact hp.same k e hk2
    · have q1 : cof s.h.get k = none := by
        cases hx : cof s.h.get k with
        | none => rfl
        | some x => have := hp.dom k x hx; omega
      have q2 : cof h.get k = none := by
        cases hx : cof h.get k with
        | none => rfl
        | some x => have := hdom k x hx; omega
      rw [q1, q2]
  · intro μ A w xs hvs hh hinj hG hfr
    simp only at hfr
    have hlen := VRs.length hvs
    have hle0 : Le μ μ A (fun id => A id ∨ (nx ≤ id ∧ id < nx)) w w := ⟨fun _ h => Or.inl h, fun _ _ => rfl, fun _ => Nat.le_refl _⟩
    have hI : Inv μ A w nx (args.length + (F.ntmps - args.length)) [] t0.get (cof h.get) (fun id => A id ∨ (nx ≤ id ∧ id < nx)) μ
        { tmps := xs.toArray ++ Array.replicate (F.ntmps - xs.toArray.size) undef, defers := [] } w := by
      refine ⟨rfl, ?_, fun i hi => ⟨Or.inl hi, rfl⟩, fun t v ht => ?_, fun k c h1 => ⟨Or.inl (hh k c h1).1, CR.up hle0 rfl rfl (fun _ => rfl) c (fun _ _ _ => rfl) (hh k c h1).2⟩, hinj, fun k c h1 => Or.inl ⟨hdom k c h1, (hh k c h1).1⟩,
        fun k c h1 h2 => absurd (hh k c h1).1 h2, Fr.refl _ _⟩
      · simp [hlen]
      · rw [h5 t] at ht
        by_cases e : t < args.length
        · rw [if_pos (by omega), Nat.sub_zero] at ht
          obtain ⟨x, h9, h10⟩ := VRs.nth t v hvs ht
          have : (xs.toArray ++ Array.replicate (F.ntmps - xs.toArray.size) undef).getD t undef = x := by
            have hlt : t < xs.length := by omega
            rw [Array.getD_eq_getD_getElem?, Array.getElem?_append_left (by simpa using hlt)]
            simp [h9]
          simp only [this]
          exact VR.up hle0 _ _ h10
        · rw [if_neg (by omega), T.get_e] at ht; cases ht
    have hwp := hw μ A w s.nx (fun id h1 h2 => hfr id h1 h2) (Nat.le_refl _) hG _ _ ⟨μ, hI⟩
    refine calls_of_wp hF hc (wp_mono hwp.wp ?_)
    rintro e' a' w' ⟨rfl, μ', hI'⟩
    obtain ⟨y, h9, h10⟩ := results_ok (P := P) (F := F) hI'.tm hI'.hp h8
    have hpost : Post (cof h.get) (callKey nx ⟨tupOf vs, s.h, s.nx, s.tch⟩) (cof s.h.get) (tupOf vs) (fun id => A id ∨ (nx ≤ id ∧ id < s.nx)) A μ μ' w w' y := by
      refine ⟨⟨fun _ h => Or.inl h, fun i hi => (hI'.old i hi).2, hI'.fr.bs⟩, h10, fun k c _ h1 => hI'.hp k c h1, fun k k' c c' _ _ h1 h2 => hI'.inj k k' c c' h1 h2, fun k c h1 h2 h3 => ?_, hI'.fr.mono ?_⟩
      · rcases hI'.new k c h2 h3 with q | ⟨t, q1, q2⟩
        · exact Or.inl q
        · obtain ⟨_, j, hj⟩ := hp.tch t q1
          cases hx : cof h.get (t, j) with
          | none => exact absurd hx hj
          | some c' =>
            refine Or.inr ⟨(t, j), c', hx, fun j' => ⟨Or.inr q1, ?_⟩, q2⟩
            cases hy : cof s.h.get (t, j') with
            | none => rfl
            | some c2 =>
              exfalso
              have hA := (hh _ c' hx).1
              refine hI'.inj k (t, j') c c2 h2 hy (fun e => h3 (by rw [e]; exact hA)) ?_
              rw [q2]
              simp only [(hI'.old t hA).2]
      · rintro b o _ ⟨t, q1, q2⟩
        obtain ⟨_, j, hj⟩ := hp.tch t q1
        exact ⟨(t, 0), j, Or.inr q1, hj, q2, Or.inr fun _ => Or.inr q1⟩
    rcases he with rfl | rfl
    · exact ⟨hI'.defers, y, h9, y, μ', rfl, hpost⟩
    · exact ⟨hI'.defers, y, h9, y, μ', rfl, hpost⟩
variable {over : CallT → CallT}
theorem run_ok (hm : P.follows .mixedOrders = true) (hover : ∀ c, CallOK P G c → CallOK P G (over c)) (hbody : ∀ (g : FuncId) (F : Func), P.funcs[g]? = some F → (F.name == "runtime.NumGoroutine") = false) :
    ∀ n, RunOK P G (run P G over n)
  | 0 => by
    intro base N c s ex s' hr
    have hr' : (R.no "fuel" 0 : R (Ex × St)) = .ok (ex, s') := hr
    cases hr'
  | n + 1 => by
    have ih := run_ok hm hover hbody n
    rw [run_succ]
    exact stepR_ok hm ih (hover _ (callF_ok ih)) hbody
/-- The executor is right. -/
theorem exec_ok (hm : P.follows .mixedOrders = true) (hover : ∀ c, CallOK P G c → CallOK P G (over c)) (hbody : ∀ (g : FuncId) (F : Func), P.funcs[g]? = some F → (F.name == "runtime.NumGoroutine") = false) (n : Nat) :
    CallOK P G (exec P G over n) := callF_ok (run_ok hm hover hbody n)
end
end Go.X
