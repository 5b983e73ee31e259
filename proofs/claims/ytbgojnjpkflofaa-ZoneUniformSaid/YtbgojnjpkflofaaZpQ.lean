/- The plain law ZoneUniform: the law's function comes to true. No condition but those in each theorem. -/
import Derived.Test.YtbgojnjpkflofaaZpI
import Derived.Test.YtbgojnjpkflofaaZpN
import Derived.Test.YtbgojnjpkflofaaPx15
namespace Go.Proofs.Ytbgojnjpkflofaa.Zp
open Go.RowKit Go.Proofs.YtbgojnjpkflofaaW.PrintWords Go.Proofs.YtbgojnjpkflofaaW.PrintLast Go.Proofs.YtbgojnjpkflofaaW.PrintMore
open Go.Proofs.Ytbgojnjpkflofaa.P

theorem valX {o : Int} (h0 : -840 ≤ o) (h1 : o ≤ 840) : valErr (⟨#[120]⟩ : ByteArray) o [] = 0 := by
  have e : nameB (⟨#[120]⟩ : ByteArray) = true := by decide +kernel
  have e2 : offB o = true := offB_iff.2 ⟨h0, h1⟩
  unfold valErr
  rw [if_pos e, if_pos e2]
  rfl
/-- Where the offset is the same everywhere, two days hold one or two whole nights. -/
theorem two_days (o t a b : Int) (ha : 0 ≤ a ∧ a < 1440) (hb : 0 ≤ b ∧ b < 1440) (hne : a ≠ b) (p : Int → Bool) (hp : ∀ x, p x = decide ((x + o - a) % 1440 < wid a b)) :
    1 ≤ full (wid a b) (runs p t (t + 2880)) ∧ full (wid a b) (runs p t (t + 2880)) ≤ 2 := by
  have hn : 0 < wid a b ∧ wid a b < 1440 := by unfold wid; omega
  generalize wid a b = n at *
  obtain ⟨c, hc⟩ : ∃ c, (t + o - a) % 1440 = c := ⟨_, rfl⟩
  have hc0 : 0 ≤ c ∧ c < 1440 := by omega
  -- the first band's rest
  have r1 : runs p t (t - c + 1440) = if c < n then [⟨t, t - c + n⟩] else [] := by
    by_cases h : c < n
    · rw [if_pos h, runs_skip (c := t - c + n) p (by omega) (by omega) (fun x u v => by rw [hp]; exact decide_eq_false (by omega)), runs_take (a := t) p (Int.le_refl _) (by omega) (fun x u v => by rw [hp]; exact decide_eq_true (by omega)), runs_self]
      rfl
    · rw [if_neg h, runs_skip (c := t) p (Int.le_refl _) (by omega) (fun x u v => by rw [hp]; exact decide_eq_false (by omega)), runs_self]
  have r2 : runs p t (t - c + 2880) = (if c < n then [(⟨t, t - c + n⟩ : S35)] else []) ++ [⟨t - c + 1440, t - c + 1440 + n⟩] := by
    rw [runs_skip (c := t - c + 1440 + n) p (by omega) (by omega) (fun x u v => by rw [hp]; exact decide_eq_false (by omega)), runs_take (a := t - c + 1440) p (by omega) (by omega) (fun x u v => by rw [hp]; exact decide_eq_true (by omega)), r1]
    by_cases h : c < n
    · rw [if_pos h, show ([(⟨t, t - c + n⟩ : S35)]) = [] ++ [⟨t, t - c + n⟩] from rfl, pushIv_snoc, if_neg (show ¬ t - c + n = t - c + 1440 by omega)]
    · rw [if_neg h, pushIv_nil]; rfl
  have f2 : full n (runs p t (t - c + 2880)) = (if c = 0 then 1 else 0) + 1 := by
    rw [r2, full_append]
    have e1 : full n ([⟨t - c + 1440, t - c + 1440 + n⟩] : List S35) = 1 := by
      simp only [full, Int.add_zero]
      rw [if_pos (show t - c + 1440 + n - (t - c + 1440) ≥ n by omega)]
    rw [e1]
    by_cases h : c < n
    · rw [if_pos h]
      simp only [full, Int.add_zero]
      by_cases h0 : c = 0
      · rw [if_pos h0, if_pos (show t - c + n - t ≥ n by omega)]
      · rw [if_neg h0, if_neg (show ¬ t - c + n - t ≥ n by omega)]
    · rw [if_neg h, if_neg (by omega)]
      rfl
  by_cases h0 : c = 0
  · rw [show t + 2880 = t - c + 2880 from by omega, f2, if_pos h0]
    omega
  · rw [if_neg h0] at f2
    -- what begins at the third band's head
    have hlast : ∀ d, t - c + 2880 < d → pushIv (runs p t (t - c + 2880)) (t - c + 2880) d = runs p t (t - c + 2880) ++ [⟨t - c + 2880, d⟩] := fun d hd => by
      rw [r2, pushIv_snoc, if_neg (show ¬ t - c + 1440 + n = t - c + 2880 by omega)]
    by_cases h1 : n < c
    · have r3 : runs p t (t + 2880) = runs p t (t - c + 2880) ++ [⟨t - c + 2880, t - c + 2880 + n⟩] := by
        rw [runs_skip (c := t - c + 2880 + n) p (by omega) (by omega) (fun x u v => by rw [hp]; exact decide_eq_false (by omega)), runs_take (a := t - c + 2880) p (by omega) (by omega) (fun x u v => by rw [hp]; exact decide_eq_true (by omega)), hlast _ (by omega)]
      rw [r3, full_append, f2]
      simp only [full, Int.add_zero]
      split <;> omega
    · have r3 : runs p t (t + 2880) = runs p t (t - c + 2880) ++ [⟨t - c + 2880, t + 2880⟩] := by
        rw [runs_take (a := t - c + 2880) p (by omega) (by omega) (fun x u v => by rw [hp]; exact decide_eq_true (by omega)), hlast _ (by omega)]
      rw [r3, full_append, f2]
      simp only [full, Int.add_zero]
      split <;> omega
theorem zoneUniform_ev (o t a b : Int) : Ev (fun k => pairinglaw7_ZoneUniform.f k o t a b) true := by
  unfold pairinglaw7_ZoneUniform.f
  have JT : Ev (fun k => pairinglaw7_ZoneUniform.j0 k o t a b true) true :=
    Ev.step (f := fun k => (pairinglaw7_awake.f k).bind fun t => some t) (fun k => by simp only [pairinglaw7_ZoneUniform.j0, if_true]) (Ev.bind awake_true (Ev.now _))
  by_cases h1 : o < -840
  · simp only [if_pos h1]; exact JT
  simp only [if_neg h1]
  by_cases h2 : o > 840
  · simp only [if_pos h2]; exact JT
  simp only [if_neg h2]
  by_cases h3 : t < 1440
  · simp only [if_pos h3]; exact JT
  simp only [if_neg h3]
  by_cases h4 : t ≥ 52591000
  · simp only [if_pos h4]; exact JT
  simp only [if_neg h4]
  by_cases h5 : a < 0
  · simp only [if_pos h5]; exact JT
  simp only [if_neg h5]
  by_cases h6 : a > 1439
  · simp only [if_pos h6]; exact JT
  simp only [if_neg h6]
  by_cases h7 : b < 0
  · simp only [if_pos h7]; exact JT
  simp only [if_neg h7]
  by_cases h8 : b > 1439
  · simp only [if_pos h8]; exact JT
  simp only [if_neg h8]
  by_cases h9 : a = b
  · rw [show (a == b) = true from by simpa using h9]; exact JT
  rw [show (a == b) = false from by simpa using h9]
  have hv := valX (o := o) (by omega) (by omega)
  have ho : offB o = true := offB_iff.2 ⟨by omega, by omega⟩
  have eo : offErr (⟨#[120]⟩ : ByteArray) o [] t = 0 := by
    unfold offErr
    rw [if_pos hv, if_pos (insB_iff.2 ⟨by omega, by omega⟩)]
  have eb : bandErr (⟨#[120]⟩ : ByteArray) o [] t (t + 2880) a b = 0 := bandErr_iff.2 ⟨hv, spB_iff.2 ⟨by omega, by omega, by omega⟩, by omega, by omega⟩
  have el : locTime (⟨#[120]⟩ : ByteArray) o [] t = ((t + o) / 1440, (t + o) % 1440, 0) := by unfold locTime; rw [if_pos eo]; rfl
  have ei : insts (⟨#[120]⟩ : ByteArray) o [] ((t + o) / 1440) ((t + o) % 1440) = ([t], 0) := by
    unfold insts
    rw [if_pos hv, if_neg (by omega), if_neg (by omega), show 1440 * ((t + o) / 1440) + (t + o) % 1440 = t + o from by omega]
    congr 1
    refine asc_ext (asc_filter _ (asc_ints _ _)) (by simp) (fun x => ?_)
    rw [mem_instL o [] (t + o) trivial ho x]
    simp only [offAt, List.mem_singleton]
    omega
  refine Ev.step (f := fun k => _) (fun k => by simp only [pairinglaw7_ZoneUniform.j0, Bool.false_eq_true, if_false]; rfl) ?_
  refine Ev.bind (localTime _ _ _ _) ?_
  rw [el, wrap_id (n := t + o) (by omega) (by omega), wrap_id (n := t + 2880) (by omega) (by omega)]
  simp only [split_f (show -1000000000000000 ≤ t + o by omega) (by omega), Option.bind_some]
  have I := instants (⟨#[120]⟩ : ByteArray) o [] ((t + o) / 1440) ((t + o) % 1440)
  rw [ei] at I
  refine Ev.bind I (Ev.bind (nights _ _ _ _ _ _ _) ?_)
  simp only [eb, if_true]
  refine Ev.bind (same_self [t] (by simp)) ?_
  have N := two_days o t a b (by omega) (by omega) h9 (inBd a (wid a b) (offAt o [])) (fun x => rfl)
  have e2 : nightsN (⟨#[120]⟩ : ByteArray) o [] t (t + 2880) a b = full (wid a b) (runs (inBd a (wid a b) (offAt o [])) t (t + 2880)) := by unfold nightsN; rw [if_pos eb]
  rw [e2]
  simp only [if_true]
  simp only [if_pos (show full (wid a b) (runs (inBd a (wid a b) (offAt o [])) t (t + 2880)) ≥ 1 from N.1), if_pos N.2]
  exact Ev.bind awake_true (Ev.now _)
end Go.Proofs.Ytbgojnjpkflofaa.Zp
