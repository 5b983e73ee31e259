/- Plain laws on zones: Nights counts the runs that are as long as the band. No condition but those in each theorem. -/
import Derived.Test.YtbgojnjpkflofaaZpK
import Derived.Test.YtbgojnjpkflofaaPx11
namespace Go.Proofs.Ytbgojnjpkflofaa.Zp
open Go.RowKit Go.Proofs.YtbgojnjpkflofaaW.PrintWords Go.Proofs.YtbgojnjpkflofaaW.PrintLast Go.Proofs.YtbgojnjpkflofaaW.PrintMore
open Go.Proofs.Ytbgojnjpkflofaa.P

/-- How many stretches are at least n minutes long. -/
def full (n : Int) : List S35 → Int
  | [] => 0
  | q :: r => (if q.f1 - q.f0 ≥ n then 1 else 0) + full n r
theorem full_append (n : Int) (a b : List S35) : full n (a ++ b) = full n a + full n b := by
  induction a with
  | nil => simp [full]
  | cons x r ih => simp only [List.cons_append, full, ih]; omega
theorem full_bd (n : Int) (a : List S35) : 0 ≤ full n a ∧ full n a ≤ a.length := by
  induction a with
  | nil => simp [full]
  | cons x r ih => simp only [full, List.length_cons]; split <;> omega
theorem nights_loop (a b : Int) (ha : 0 ≤ a ∧ a < 1440) (hb : 0 ≤ b ∧ b < 1440) (L : List S35) (A B : Int) (hA : 0 ≤ A) (hB : B ≤ 60000000) (hW : Wf35 A B L) (hL : (L.length : Int) ≤ 60000000) (d : Nat) : ∀ (i : Nat) (n : Int), i + d = L.length → 0 ≤ n → n ≤ i →
    Ev (fun k => zone_Nights.l0 k a b n L (L.length : Int) (i : Int)) (n + full (wid a b) (L.drop i), 0) := by
  induction d with
  | zero =>
    intro i n hi h0 h1
    refine Ev.step (f := fun _ => some (n, 0)) (fun k => ?_) ?_
    · simp only [zone_Nights.l0]
      rw [if_neg (by omega)]
    · rw [List.drop_eq_nil_of_le (by omega)]
      simp only [full, Int.add_zero]
      exact Ev.now _
  | succ d ih =>
    intro i n hi h0 h1
    have hw : wrap64 ((i : Int) + 1) = ((i + 1 : Nat) : Int) := by rw [wrap_id (by omega) (by omega)]; omega
    have hs := hW _ (rd35_mem L i (by omega))
    have e1 : wrap64 ((rd_T35 L (i : Int)).f1 - (rd_T35 L (i : Int)).f0) = (rd_T35 L (i : Int)).f1 - (rd_T35 L (i : Int)).f0 := wrap_id (by omega) (by omega)
    have e2 : wrap64 (n + 1) = n + 1 := wrap_id (by omega) (by omega)
    rw [drop35 L i (by omega)]
    simp only [full]
    by_cases h : (rd_T35 L (i : Int)).f1 - (rd_T35 L (i : Int)).f0 ≥ wid a b
    · rw [if_pos h, ← Int.add_assoc]
      refine Ev.step (fun k => ?_) (ih (i + 1) (n + 1) (by omega) (by omega) (by omega))
      simp only [zone_Nights.l0]
      rw [if_pos (by omega), if_pos (by omega), if_pos (by omega), width_f ha hb]
      simp only [Option.bind_some]
      rw [e1, if_pos (show _ ≥ (b - a + 1440) % 1440 from h), e2, hw]
    · rw [if_neg h, Int.zero_add]
      refine Ev.step (fun k => ?_) (ih (i + 1) n (by omega) (by omega) (by omega))
      simp only [zone_Nights.l0]
      rw [if_pos (by omega), if_pos (by omega), if_pos (by omega), width_f ha hb]
      simp only [Option.bind_some]
      rw [e1, if_neg (show ¬ _ ≥ (b - a + 1440) % 1440 from h), hw]
def nightsN (s : ByteArray) (o : Int) (l : List S52) (x y a b : Int) : Int := if bandErr s o l x y a b = 0 then full (wid a b) (runs (inBd a (wid a b) (offAt o l)) x y) else 0
theorem nights (s : ByteArray) (o : Int) (l : List S52) (x y a b : Int) : Ev (fun k => zone_Nights.f k s o l x y a b) (nightsN s o l x y a b, bandErr s o l x y a b) := by
  unfold zone_Nights.f
  refine Ev.bind (bandCheck s o l x y a b) ?_
  unfold nightsN
  by_cases h : bandErr s o l x y a b = 0
  · simp only [if_pos h]
    rw [h]
    obtain ⟨hv, hs, ha, hb⟩ := bandErr_iff.1 h
    have hsp := spB_iff.1 hs
    refine Ev.bind (bands_f s o l x y a b hv hs ha hb) ?_
    have e : x + ((y - x).toNat : Int) = y := by omega
    have hW := wf_runs (inBd a (wid a b) (offAt o l)) x (y - x).toNat
    rw [e] at hW
    have hL := runs_len (inBd a (wid a b) (offAt o l)) x y
    have R := nights_loop a b ha hb (runs (inBd a (wid a b) (offAt o l)) x y) x y hsp.1 (by omega) hW (by omega) (runs (inBd a (wid a b) (offAt o l)) x y).length 0 0 (by omega) (by omega) (by omega)
    rw [List.drop_zero, Int.zero_add] at R
    exact R
  · simp only [if_neg h]; exact Ev.now _
end Go.Proofs.Ytbgojnjpkflofaa.Zp
