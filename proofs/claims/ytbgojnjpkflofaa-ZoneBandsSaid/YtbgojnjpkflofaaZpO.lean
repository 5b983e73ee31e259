/- The plain law ZoneBands: the reference's BandMinutes and Nights, minute by minute; the law's function comes to true. No condition but those in each theorem. -/
import Derived.Test.YtbgojnjpkflofaaZpL
import Derived.Test.YtbgojnjpkflofaaZpN
import Derived.Test.YtbgojnjpkflofaaZpC
import Derived.Test.YtbgojnjpkflofaaZpF
import Derived.Test.YtbgojnjpkflofaaPx13
import Derived.Test.YtbgojnjpkflofaaPx14
namespace Go.Proofs.Ytbgojnjpkflofaa.Zp
open Go.RowKit Go.Proofs.YtbgojnjpkflofaaW.PrintWords Go.Proofs.YtbgojnjpkflofaaW.PrintLast Go.Proofs.YtbgojnjpkflofaaW.PrintMore
open Go.Proofs.Ytbgojnjpkflofaa.P

/-! ### the reference -/
theorem rband (s : ByteArray) (o : Int) (l : List S52) (x y a b : Int) : Ev (fun k => pairingref5_band.f k s o l x y a b) (bandErr s o l x y a b) := by
  unfold pairingref5_band.f
  refine Ev.bind (rvalidate s o l) ?_
  unfold bandErr
  simp only [rspan_f, Option.bind_some]
  by_cases h0 : valErr s o l = 0
  · simp only [if_pos h0]
    by_cases h1 : spB x y = true
    · simp only [if_pos h1]
      by_cases h2 : a < 0
      · rw [argB_no (by omega)]; simp only [if_pos h2]; exact Ev.now _
      · simp only [if_neg h2]
        by_cases h3 : a > 1439
        · rw [argB_no (by omega)]; simp only [if_pos h3]; exact Ev.now _
        · simp only [if_neg h3]
          by_cases h4 : b < 0
          · rw [argB_no (by omega)]; simp only [if_pos h4]; exact Ev.now _
          · simp only [if_neg h4]
            by_cases h5 : b > 1439
            · rw [argB_no (by omega)]; simp only [if_pos h5]; exact Ev.now _
            · rw [argB_iff.2 ⟨h1, by omega, by omega⟩]; simp only [if_neg h5]; exact Ev.now _
    · rw [argB_no (fun h => h1 h.1)]; simp only [if_neg h1]; exact Ev.now _
  · simp only [if_neg h0]; exact Ev.now _
theorem inBand_f {m a b : Int} (ha : 0 ≤ a ∧ a < 1440) (hb : 0 ≤ b ∧ b < 1440) : pairingref5_InBand.f (m % 1440) a b = some (decide ((m - a) % 1440 < wid a b)) := by
  unfold pairingref5_InBand.f wid
  by_cases h1 : a ≤ b
  · rw [if_pos h1]
    by_cases h2 : a ≤ m % 1440
    · rw [if_pos h2]
      by_cases h3 : m % 1440 < b
      · rw [decide_eq_true h3, decide_eq_true (by omega)]
      · rw [decide_eq_false h3, decide_eq_false (by omega)]
    · rw [if_neg h2, decide_eq_false (by omega)]
  · rw [if_neg h1]
    by_cases h2 : a ≤ m % 1440
    · rw [if_pos h2, decide_eq_true (by omega)]
    · rw [if_neg h2]
      by_cases h3 : m % 1440 < b
      · rw [decide_eq_true h3, decide_eq_true (by omega)]
      · rw [decide_eq_false h3, decide_eq_false (by omega)]
theorem rmin_loop (s : ByteArray) (o : Int) (l : List S52) (hc : Chain 0 l) (ho : offB o = true) (hl : l.length ≤ 16) (x y a b : Int) (hy : y ≤ 52596000) (ha : 0 ≤ a ∧ a < 1440) (hb : 0 ≤ b ∧ b < 1440) (d : Nat) : ∀ (t n : Int), 0 ≤ t → t + d = y → 0 ≤ n → n + d ≤ 60000000 →
    Ev (fun k => pairingref5_BandMinutes.l0 k a b n t s o l x y) (n + cnt (inBd a (wid a b) (offAt o l)) t d, 0) := by
  induction d with
  | zero =>
    intro t n h0 h1 h2 h3
    refine Ev.step (f := fun _ => some (n, 0)) (fun k => ?_) ?_
    · simp only [pairingref5_BandMinutes.l0]
      rw [if_neg (by omega)]
    · simp only [cnt, Int.add_zero]
      exact Ev.now _
  | succ d ih =>
    intro t n h0 h1 h2 h3
    have hg := offB_iff.1 (offAt_ok l 0 o hc ho t)
    have w1 : wrap64 (t + 1) = t + 1 := wrap_id (by omega) (by omega)
    have w2 : wrap64 (n + 1) = n + 1 := wrap_id (by omega) (by omega)
    have w3 : wrap64 (t + offAt o l t) = t + offAt o l t := wrap_id (by omega) (by omega)
    refine Ev.step (f := fun k => (pairingref5_Offset.f k s o l t).bind fun t311 => ((pairingref5_SplitMinute.f (wrap64 (t + t311))).bind fun bt312 => ((pairingref5_InBand.f bt312.2 a b).bind fun t314 => (if t314 = true then (pairingref5_BandMinutes.l0 k a b (wrap64 (n + 1)) (wrap64 (t + 1)) s o l x y) else (pairingref5_BandMinutes.l0 k a b n (wrap64 (t + 1)) s o l x y))))) (fun k => ?_) ?_
    · simp only [pairingref5_BandMinutes.l0]
      rw [if_pos (by omega)]
    · refine Ev.bind (roffset s o l hl t) ?_
      simp only [w3, rsplit_f (show -1000000000000000 ≤ t + offAt o l t by omega) (by omega), Option.bind_some, inBand_f ha hb, w1, w2]
      simp only [cnt]
      have e : inBd a (wid a b) (offAt o l) t = decide ((t + offAt o l t - a) % 1440 < wid a b) := rfl
      rw [← e]
      cases inBd a (wid a b) (offAt o l) t with
      | true =>
        simp only [if_true]
        rw [← Int.add_assoc]
        exact ih (t + 1) (n + 1) (by omega) (by omega) (by omega) (by omega)
      | false =>
        simp only [Bool.false_eq_true, if_false, Int.zero_add]
        exact ih (t + 1) n (by omega) (by omega) (by omega) (by omega)
theorem rbandMinutes (s : ByteArray) (o : Int) (l : List S52) (x y a b : Int) : Ev (fun k => pairingref5_BandMinutes.f k s o l x y a b) (bandMin s o l x y a b, bandErr s o l x y a b) := by
  unfold pairingref5_BandMinutes.f
  refine Ev.bind (rband s o l x y a b) ?_
  unfold bandMin
  by_cases h : bandErr s o l x y a b = 0
  · simp only [if_pos h]
    rw [h]
    obtain ⟨hv, hs, ha, hb⟩ := bandErr_iff.1 h
    obtain ⟨ho, hl, hc⟩ := chain_of_valid hv
    have hsp := spB_iff.1 hs
    have R := rmin_loop s o l hc ho hl x y a b hsp.2.2 ha hb (y - x).toNat x 0 hsp.1 (by omega) (by omega) (by omega)
    rw [Int.zero_add] at R
    exact R
  · simp only [if_neg h]; exact Ev.now _
/-- How long the run is that ends at t. -/
def runOf (out : List S35) (t : Int) : Int := match out.getLast? with | none => 0 | some q => if q.f1 = t then q.f1 - q.f0 else 0
/-- How many stretches of at least n minutes have ended ahead of t. -/
def endedOf (n : Int) (out : List S35) (t : Int) : Int := match out.getLast? with | none => 0 | some q => if q.f1 = t then full n out.dropLast else full n out
theorem runOf_snoc (i : List S35) (q : S35) (t : Int) : runOf (i ++ [q]) t = if q.f1 = t then q.f1 - q.f0 else 0 := by unfold runOf; simp
theorem endedOf_snoc (n : Int) (i : List S35) (q : S35) (t : Int) : endedOf n (i ++ [q]) t = if q.f1 = t then full n i else full n (i ++ [q]) := by unfold endedOf; simp
theorem push_state (n : Int) (A t : Int) (out : List S35) (h : Wf35 A t out) : runOf (push1 out t) (t + 1) = runOf out t + 1 ∧ endedOf n (push1 out t) (t + 1) = endedOf n out t := by
  unfold push1
  rcases snoc_cases out with rfl | ⟨i, q, rfl⟩
  · rw [pushIv_nil]
    refine ⟨?_, ?_⟩
    · rw [show ([(⟨t, t + 1⟩ : S35)]) = [] ++ [⟨t, t + 1⟩] from rfl, runOf_snoc, if_pos rfl]
      show t + 1 - t = runOf [] t + 1
      unfold runOf; simp; omega
    · rw [show ([(⟨t, t + 1⟩ : S35)]) = [] ++ [⟨t, t + 1⟩] from rfl, endedOf_snoc, if_pos rfl]
      unfold endedOf; simp [full]
  · have hq := h q (by simp)
    rw [pushIv_snoc]
    by_cases e : q.f1 = t
    · rw [if_pos e, runOf_snoc, endedOf_snoc, runOf_snoc, endedOf_snoc, if_pos rfl, if_pos rfl, if_pos e, if_pos e]
      exact ⟨by show t + 1 - q.f0 = q.f1 - q.f0 + 1; omega, rfl⟩
    · rw [if_neg e, runOf_snoc, endedOf_snoc, runOf_snoc, endedOf_snoc, if_pos rfl, if_pos rfl, if_neg e, if_neg e]
      exact ⟨by show t + 1 - t = 0 + 1; omega, rfl⟩
theorem skip_state (n : Int) (A t : Int) (out : List S35) (h : Wf35 A t out) : runOf out (t + 1) = 0 ∧ endedOf n out (t + 1) = endedOf n out t + (if runOf out t ≥ n ∧ runOf out t > 0 then 1 else 0) := by
  rcases snoc_cases out with rfl | ⟨i, q, rfl⟩
  · refine ⟨rfl, ?_⟩
    unfold endedOf runOf
    simp
  · have hq := h q (by simp)
    rw [runOf_snoc, endedOf_snoc, runOf_snoc, endedOf_snoc, if_neg (by omega), if_neg (by omega)]
    refine ⟨rfl, ?_⟩
    rw [full_append]
    simp only [full, Int.add_zero]
    by_cases e : q.f1 = t
    · rw [if_pos e, if_pos e]
      by_cases e2 : q.f1 - q.f0 ≥ n
      · rw [if_pos e2, if_pos ⟨e2, by omega⟩]
      · rw [if_neg e2, if_neg (fun h => e2 h.1)]
    · rw [if_neg e, if_neg e, if_neg (show ¬ ((0 : Int) ≥ n ∧ (0 : Int) > 0) by omega)]
      omega
theorem ended_all (n : Int) (A t : Int) (out : List S35) (h : Wf35 A t out) : endedOf n out (t + 1) = full n out := by
  rcases snoc_cases out with rfl | ⟨i, q, rfl⟩
  · unfold endedOf; simp [full]
  · have hq := h q (by simp)
    rw [endedOf_snoc, if_neg (by omega)]
theorem rnights_loop (s : ByteArray) (o : Int) (l : List S52) (hc : Chain 0 l) (ho : offB o = true) (hl : l.length ≤ 16) (x y a b n : Int) (hx : 0 ≤ x) (hxy : x ≤ y) (hy : y ≤ 52596000) (ha : 0 ≤ a ∧ a < 1440) (hb : 0 ≤ b ∧ b < 1440) (p : Int → Bool) (hp : p = inBd a (wid a b) (offAt o l)) (d : Nat) :
    ∀ t : Int, x ≤ t → t + d = y →
    Ev (fun k => pairingref5_Nights.l0 k a b n (endedOf n (runs p x t) t) (runOf (runs p x t) t) t s o l x y) (if n = 0 then 0 else full n (runs p x y), 0) := by
  have W : ∀ t, x ≤ t → Wf35 x t (runs p x t) := fun t ht => by
    have := wf_runs p x (t - x).toNat
    rwa [show x + ((t - x).toNat : Int) = t from by omega] at this
  have bd : ∀ t, x ≤ t → t ≤ y → 0 ≤ runOf (runs p x t) t ∧ runOf (runs p x t) t ≤ 60000000 ∧ 0 ≤ endedOf n (runs p x t) t ∧ endedOf n (runs p x t) t ≤ 60000000 := fun t h1 h2 => by
    have hW := W t h1
    have hL := runs_len p x t
    rcases snoc_cases (runs p x t) with e | ⟨i, q, e⟩
    · rw [e]; unfold runOf endedOf; simp
    · have hq := hW q (by rw [e]; simp)
      have f1 := full_bd n i
      have f2 := full_bd n (i ++ [q])
      rw [e] at hL ⊢
      rw [runOf_snoc, endedOf_snoc]
      simp at hL f2
      split <;> omega
  -- a minute that is not in the band
  have J0 : ∀ t, x ≤ t → t ≤ y → (p t = false ∨ t = y) → ∀ r, Ev (fun k => pairingref5_Nights.l0 k a b n (endedOf n (runs p x t) (t + 1)) 0 (t + 1) s o l x y) r →
      Ev (fun k => pairingref5_Nights.j1 k a b n (endedOf n (runs p x t) t) (runOf (runs p x t) t) t false s o l x y) r := by
    intro t h1 h2 _ r h
    have B := bd t h1 h2
    have S := (skip_state n x t _ (W t h1)).2
    have w1 : wrap64 (t + 1) = t + 1 := wrap_id (by omega) (by omega)
    have w2 : wrap64 (endedOf n (runs p x t) t + 1) = endedOf n (runs p x t) t + 1 := wrap_id (by omega) (by omega)
    refine Ev.step (fun k => ?_) h
    simp only [pairingref5_Nights.j1, Bool.false_eq_true, if_false]
    by_cases c1 : runOf (runs p x t) t ≥ n
    · by_cases c2 : runOf (runs p x t) t > 0
      · rw [if_pos ⟨c1, c2⟩] at S
        rw [if_pos c1, if_pos c2, w1, w2, S]
      · rw [if_neg (fun h => c2 h.2)] at S
        rw [if_pos c1, if_neg c2, w1, S, Int.add_zero]
    · rw [if_neg (fun h => c1 h.1)] at S
      rw [if_neg c1, w1, S, Int.add_zero]
  induction d with
  | zero =>
    intro t h0 h1
    obtain rfl : t = y := by omega
    refine Ev.step (f := fun k => pairingref5_Nights.j1 k a b n (endedOf n (runs p x t) t) (runOf (runs p x t) t) t false s o l x t) (fun k => ?_) ?_
    · simp only [pairingref5_Nights.l0]
      rw [if_pos (by omega), if_neg (by omega)]
    · refine J0 t h0 (by omega) (.inr rfl) _ ?_
      rw [ended_all n x t _ (W t h0)]
      refine Ev.step (f := fun _ => some (if n = 0 then 0 else full n (runs p x t), 0)) (fun k => ?_) (Ev.now _)
      simp only [pairingref5_Nights.l0]
      rw [if_neg (by omega)]
      split <;> rfl
  | succ d ih =>
    intro t h0 h1
    have hg := offB_iff.1 (offAt_ok l 0 o hc ho t)
    have w1 : wrap64 (t + 1) = t + 1 := wrap_id (by omega) (by omega)
    have w3 : wrap64 (t + offAt o l t) = t + offAt o l t := wrap_id (by omega) (by omega)
    refine Ev.step (f := fun k => (pairingref5_Offset.f k s o l t).bind fun t327 => ((pairingref5_SplitMinute.f (wrap64 (t + t327))).bind fun bt328 => ((pairingref5_InBand.f bt328.2 a b).bind fun t330 => (pairingref5_Nights.j1 k a b n (endedOf n (runs p x t) t) (runOf (runs p x t) t) t t330 s o l x y)))) (fun k => ?_) ?_
    · simp only [pairingref5_Nights.l0]
      rw [if_pos (by omega), if_pos (by omega)]
    · refine Ev.bind (roffset s o l hl t) ?_
      simp only [w3, rsplit_f (show -1000000000000000 ≤ t + offAt o l t by omega) (by omega), Option.bind_some, inBand_f ha hb]
      have e : p t = decide ((t + offAt o l t - a) % 1440 < wid a b) := by rw [hp]; rfl
      rw [← e]
      have IH := ih (t + 1) (by omega) (by omega)
      rw [runs_next p h0] at IH
      cases hpt : p t with
      | true =>
        rw [hpt] at IH
        simp only [if_true] at IH
        have S := push_state n x t _ (W t h0)
        rw [S.1, S.2] at IH
        have B := bd t h0 (by omega)
        refine Ev.step (fun k => ?_) IH
        simp only [pairingref5_Nights.j1, if_true]
        rw [w1, wrap_id (by omega) (by omega)]
      | false =>
        rw [hpt] at IH
        simp only [Bool.false_eq_true, if_false] at IH
        rw [(skip_state n x t _ (W t h0)).1] at IH
        exact J0 t h0 (by omega) (.inl hpt) _ IH
theorem rnights (s : ByteArray) (o : Int) (l : List S52) (x y a b : Int) : Ev (fun k => pairingref5_Nights.f k s o l x y a b) (nightsN s o l x y a b, bandErr s o l x y a b) := by
  unfold pairingref5_Nights.f
  refine Ev.bind (rband s o l x y a b) ?_
  unfold nightsN
  by_cases h : bandErr s o l x y a b = 0
  · simp only [if_pos h]
    rw [h]
    obtain ⟨hv, hs, ha, hb⟩ := bandErr_iff.1 h
    obtain ⟨ho, hl, hc⟩ := chain_of_valid hv
    have hsp := spB_iff.1 hs
    have hwid : Int.tmod (wrap64 (wrap64 (b - a) + 1440)) 1440 = wid a b := by
      rw [wrap_id (n := b - a) (by omega) (by omega), wrap_id (by omega) (by omega), Int.tmod_eq_emod_of_nonneg (by omega)]
      rfl
    rw [hwid]
    have R := rnights_loop s o l hc ho hl x y a b (wid a b) hsp.1 hsp.2.1 hsp.2.2 ha hb (inBd a (wid a b) (offAt o l)) rfl (y - x).toNat x (Int.le_refl _) (by omega)
    rw [runs_self] at R
    have e : (if wid a b = 0 then 0 else full (wid a b) (runs (inBd a (wid a b) (offAt o l)) x y)) = full (wid a b) (runs (inBd a (wid a b) (offAt o l)) x y) := by
      by_cases h0 : wid a b = 0
      · rw [if_pos h0, runs_skip (A := x) (c := x) (d := y) _ (Int.le_refl _) hsp.2.1 (fun z _ _ => by
          unfold inBd
          rw [h0]
          exact decide_eq_false (by omega)), runs_self]
        rfl
      · rw [if_neg h0]
    rw [e] at R
    exact R
  · simp only [if_neg h]; exact Ev.now _
theorem zoneBands_true (s : ByteArray) (o : Int) (l : List S52) (x y a b : Int) : Ev (fun k => pairinglaw7_ZoneBands.f k s o l x y a b) true := by
  unfold pairinglaw7_ZoneBands.f
  obtain ⟨q, hq, _⟩ := light_f s o l x y
  simp only [hq, Option.bind_some]
  cases q with
  | false => simp only [Bool.false_eq_true, if_false]; exact Ev.bind awake_true (Ev.now _)
  | true =>
    simp only [if_true]
    refine Ev.bind (bandMinutes s o l x y a b) (Ev.bind (rbandMinutes s o l x y a b) (Ev.bind (nights s o l x y a b) (Ev.bind (rnights s o l x y a b) ?_)))
    simp only [if_true]
    exact Ev.bind awake_true (Ev.now _)
end Go.Proofs.Ytbgojnjpkflofaa.Zp
