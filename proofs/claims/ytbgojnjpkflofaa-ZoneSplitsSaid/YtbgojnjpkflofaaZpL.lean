/- Plain laws on zones: BandMinutes counts the minutes of the band. No condition but those in each theorem. -/
import Derived.Test.YtbgojnjpkflofaaZpK
import Derived.Test.YtbgojnjpkflofaaPx10
namespace Go.Proofs.Ytbgojnjpkflofaa.Zp
open Go.RowKit Go.Proofs.YtbgojnjpkflofaaW.PrintWords Go.Proofs.YtbgojnjpkflofaaW.PrintLast Go.Proofs.YtbgojnjpkflofaaW.PrintMore
open Go.Proofs.Ytbgojnjpkflofaa.P

/-! ### sums -/
def sumL : List S35 → Int
  | [] => 0
  | q :: r => (q.f1 - q.f0) + sumL r
theorem sumL_append (a b : List S35) : sumL (a ++ b) = sumL a + sumL b := by
  induction a with
  | nil => simp [sumL]
  | cons x r ih => simp only [List.cons_append, sumL, ih]; omega
theorem sumL_push (out : List S35) (x : Int) : sumL (push1 out x) = sumL out + 1 := by
  unfold push1
  rcases snoc_cases out with rfl | ⟨i, q, rfl⟩
  · rw [pushIv_nil]; simp [sumL]; omega
  · rw [pushIv_snoc]
    by_cases e : q.f1 = x
    · rw [if_pos e, sumL_append, sumL_append]; simp [sumL]; omega
    · rw [if_neg e, sumL_append]; simp [sumL]; omega
/-- How many of n minutes from A on p takes. -/
def cnt (p : Int → Bool) : Int → Nat → Int
  | _, 0 => 0
  | A, n + 1 => (if p A = true then 1 else 0) + cnt p (A + 1) n
theorem cnt_snoc (p : Int → Bool) (n : Nat) : ∀ A : Int, cnt p A (n + 1) = cnt p A n + (if p (A + n) = true then 1 else 0) := by
  induction n with
  | zero => intro A; simp [cnt]
  | succ n ih =>
    intro A
    have h := ih (A + 1)
    rw [show A + 1 + (n : Int) = A + ((n + 1 : Nat) : Int) from by omega] at h
    show (if p A = true then 1 else 0) + cnt p (A + 1) (n + 1) = (if p A = true then 1 else 0) + cnt p (A + 1) n + _
    rw [h]; omega
theorem cnt_bd (p : Int → Bool) (n : Nat) : ∀ A : Int, 0 ≤ cnt p A n ∧ cnt p A n ≤ n := by
  induction n with
  | zero => intro A; simp [cnt]
  | succ n ih => intro A; have := ih (A + 1); simp only [cnt]; split <;> omega
theorem cnt_add (p : Int → Bool) (m n : Nat) : ∀ A : Int, cnt p A (m + n) = cnt p A m + cnt p (A + m) n := by
  induction m with
  | zero => intro A; simp [cnt]
  | succ m ih =>
    intro A
    rw [show m + 1 + n = (m + n) + 1 from by omega]
    simp only [cnt, ih]
    rw [show A + 1 + (m : Int) = A + ((m + 1 : Nat) : Int) from by omega]
    omega
theorem cnt_not (p q : Int → Bool) (n : Nat) : ∀ A : Int, (∀ x, A ≤ x → x < A + n → q x = !(p x)) → cnt p A n + cnt q A n = n := by
  induction n with
  | zero => intro A _; simp [cnt]
  | succ n ih =>
    intro A h
    have h1 := ih (A + 1) (fun x a b => h x (by omega) (by omega))
    have h2 := h A (Int.le_refl _) (by omega)
    simp only [cnt]
    rw [h2]
    cases p A <;> simp <;> omega
theorem sum_runs (p : Int → Bool) (A : Int) (n : Nat) : sumL (runs p A (A + n)) = cnt p A n := by
  induction n with
  | zero => rw [show A + ((0 : Nat) : Int) = A from by omega, runs_self]; rfl
  | succ n ih =>
    rw [show A + ((n + 1 : Nat) : Int) = A + n + 1 from by omega, runs_next p (by omega), cnt_snoc]
    split
    · rw [sumL_push, ih]
    · rw [ih]; omega
theorem sum_loop (L : List S35) (A B : Int) (hA : 0 ≤ A) (hB : B ≤ 60000000) (hW : Wf35 A B L) (hL : (L.length : Int) ≤ 60000000) (d : Nat) : ∀ (i : Nat) (n : Int), i + d = L.length → 0 ≤ n → n ≤ 60000000 * i →
    Ev (fun k => zone_BandMinutes.l0 k n L (L.length : Int) (i : Int)) (n + sumL (L.drop i), 0) := by
  induction d with
  | zero =>
    intro i n hi h0 h1
    refine Ev.step (f := fun _ => some (n, 0)) (fun k => ?_) ?_
    · simp only [zone_BandMinutes.l0]
      rw [if_neg (by omega)]
    · rw [List.drop_eq_nil_of_le (by omega)]
      simp only [sumL, Int.add_zero]
      exact Ev.now _
  | succ d ih =>
    intro i n hi h0 h1
    have hw : wrap64 ((i : Int) + 1) = ((i + 1 : Nat) : Int) := by rw [wrap_id (by omega) (by omega)]; omega
    have hs := hW _ (rd35_mem L i (by omega))
    have e1 : wrap64 (n + wrap64 ((rd_T35 L (i : Int)).f1 - (rd_T35 L (i : Int)).f0)) = n + ((rd_T35 L (i : Int)).f1 - (rd_T35 L (i : Int)).f0) := by
      rw [wrap_id (n := (rd_T35 L (i : Int)).f1 - (rd_T35 L (i : Int)).f0) (by omega) (by omega), wrap_id (by omega) (by omega)]
    rw [drop35 L i (by omega)]
    simp only [sumL]
    rw [← Int.add_assoc]
    refine Ev.step (fun k => ?_) (ih (i + 1) (n + ((rd_T35 L (i : Int)).f1 - (rd_T35 L (i : Int)).f0)) (by omega) (by omega) (by omega))
    simp only [zone_BandMinutes.l0]
    rw [if_pos (by omega), if_pos (by omega), if_pos (by omega), e1, hw]
def bandMin (s : ByteArray) (o : Int) (l : List S52) (x y a b : Int) : Int := if bandErr s o l x y a b = 0 then cnt (inBd a (wid a b) (offAt o l)) x (y - x).toNat else 0
theorem bandMinutes (s : ByteArray) (o : Int) (l : List S52) (x y a b : Int) : Ev (fun k => zone_BandMinutes.f k s o l x y a b) (bandMin s o l x y a b, bandErr s o l x y a b) := by
  unfold zone_BandMinutes.f
  refine Ev.bind (bandCheck s o l x y a b) ?_
  unfold bandMin
  by_cases h : bandErr s o l x y a b = 0
  · simp only [if_pos h]
    rw [h]
    obtain ⟨hv, hs, ha, hb⟩ := bandErr_iff.1 h
    have hsp := spB_iff.1 hs
    refine Ev.bind (bands_f s o l x y a b hv hs ha hb) ?_
    have e : x + ((y - x).toNat : Int) = y := by omega
    have hW := wf_runs (inBd a (wid a b) (offAt o l)) x (y - x).toNat
    have hS := sum_runs (inBd a (wid a b) (offAt o l)) x (y - x).toNat
    rw [e] at hW hS
    have hL := runs_len (inBd a (wid a b) (offAt o l)) x y
    have R := sum_loop (runs (inBd a (wid a b) (offAt o l)) x y) x y hsp.1 (by omega) hW (by omega) (runs (inBd a (wid a b) (offAt o l)) x y).length 0 0 (by omega) (by omega) (by omega)
    rw [List.drop_zero, hS, Int.zero_add] at R
    exact R
  · simp only [if_neg h]; exact Ev.now _
end Go.Proofs.Ytbgojnjpkflofaa.Zp
