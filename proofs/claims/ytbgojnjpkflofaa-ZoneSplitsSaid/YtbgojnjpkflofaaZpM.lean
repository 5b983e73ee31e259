/- The plain law ZoneSplits: the law's function comes to true. No condition but those in each theorem. -/
import Derived.Test.YtbgojnjpkflofaaZpL
import Derived.Test.YtbgojnjpkflofaaZpB
import Derived.Test.YtbgojnjpkflofaaZpF
import Derived.Test.YtbgojnjpkflofaaPx12
namespace Go.Proofs.Ytbgojnjpkflofaa.Zp
open Go.RowKit Go.Proofs.YtbgojnjpkflofaaW.PrintWords Go.Proofs.YtbgojnjpkflofaaW.PrintLast Go.Proofs.YtbgojnjpkflofaaW.PrintMore
open Go.Proofs.Ytbgojnjpkflofaa.P

theorem inBd_compl {a b : Int} (g : Int → Int) (ha : 0 ≤ a ∧ a < 1440) (hb : 0 ≤ b ∧ b < 1440) (hne : a ≠ b) (x : Int) : inBd b (wid b a) g x = !(inBd a (wid a b) g x) := by
  unfold inBd wid
  generalize x + g x = m
  by_cases h : (m - a) % 1440 < (b - a + 1440) % 1440
  · rw [decide_eq_true h, decide_eq_false (by omega)]; rfl
  · rw [decide_eq_false h, decide_eq_true (by omega)]; rfl
theorem zoneSplits_true (s : ByteArray) (o : Int) (l : List S52) (x y cut a b : Int) : Ev (fun k => pairinglaw7_ZoneSplits.f k s o l x y cut a b) true := by
  unfold pairinglaw7_ZoneSplits.f
  obtain ⟨q, hq, hq1⟩ := light_f s o l x y
  simp only [hq, Option.bind_some]
  have JT : Ev (fun k => pairinglaw7_ZoneSplits.j0 k cut a b true s o l x y) true :=
    Ev.step (f := fun k => (pairinglaw7_awake.f k).bind fun t => some t) (fun k => by simp only [pairinglaw7_ZoneSplits.j0, if_true]) (Ev.bind awake_true (Ev.now _))
  cases q with
  | false => simp only [Bool.false_eq_true, if_false]; exact JT
  | true =>
    simp only [if_true]
    refine Ev.bind (rvalidate s o l) ?_
    by_cases h0 : valErr s o l = 0
    · simp only [if_pos h0]
      by_cases h1 : x < 0
      · simp only [if_pos h1]; exact JT
      simp only [if_neg h1]
      by_cases h2 : y > 52596000
      · simp only [if_pos h2]; exact JT
      simp only [if_neg h2]
      by_cases h3 : cut < x
      · simp only [if_pos h3]; exact JT
      simp only [if_neg h3]
      by_cases h4 : cut > y
      · simp only [if_pos h4]; exact JT
      simp only [if_neg h4]
      by_cases h5 : a < 0
      · simp only [if_pos h5]; exact JT
      simp only [if_neg h5]
      by_cases h6 : a > 1439
      · simp only [if_pos h6]; exact JT
      simp only [if_neg h6]
      by_cases h7 : b < 0
      · simp only [if_pos h7]; exact JT
      simp only [if_neg h7]
      by_cases h8 : b > 1439
      · simp only [if_pos h8]; exact JT
      simp only [if_neg h8]
      by_cases h9 : a = b
      · rw [show (a == b) = true from by simpa using h9]; exact JT
      rw [show (a == b) = false from by simpa using h9]
      have E : ∀ u v c d : Int, 0 ≤ u → u ≤ v → v ≤ 52596000 → (0 ≤ c ∧ c < 1440) → (0 ≤ d ∧ d < 1440) → bandErr s o l u v c d = 0 := fun u v c d i j k m n => bandErr_iff.2 ⟨h0, spB_iff.2 ⟨i, j, k⟩, m, n⟩
      have e1 := E x y a b (by omega) (by omega) (by omega) (by omega) (by omega)
      have e2 := E x cut a b (by omega) (by omega) (by omega) (by omega) (by omega)
      have e3 := E cut y a b (by omega) (by omega) (by omega) (by omega) (by omega)
      have e4 := E x y b a (by omega) (by omega) (by omega) (by omega) (by omega)
      refine Ev.step (f := fun k => _) (fun k => by simp only [pairinglaw7_ZoneSplits.j0, Bool.false_eq_true, if_false]; rfl) ?_
      refine Ev.bind (bandMinutes s o l x y a b) (Ev.bind (bandMinutes s o l x cut a b) (Ev.bind (bandMinutes s o l cut y a b) (Ev.bind (bandMinutes s o l x y b a) ?_)))
      simp only [bandMin, e1, e2, e3, e4, if_true]
      generalize hp : inBd a (wid a b) (offAt o l) = p
      have c1 := cnt_add p (cut - x).toNat (y - cut).toNat x
      rw [show (cut - x).toNat + (y - cut).toNat = (y - x).toNat from by omega, show x + (((cut - x).toNat : Nat) : Int) = cut from by omega] at c1
      have c2 := cnt_not p (inBd b (wid b a) (offAt o l)) (y - x).toNat x (fun z _ _ => by rw [← hp]; exact inBd_compl (offAt o l) (by omega) (by omega) h9 z)
      have b1 := cnt_bd p (cut - x).toNat x
      have b2 := cnt_bd p (y - cut).toNat cut
      have b3 := cnt_bd (inBd b (wid b a) (offAt o l)) (y - x).toNat x
      rw [wrap_id (n := cnt p x (cut - x).toNat + cnt p cut (y - cut).toNat) (by omega) (by omega), wrap_id (n := cnt p x (y - x).toNat + _) (by omega) (by omega), wrap_id (n := y - x) (by omega) (by omega)]
      simp only [if_pos (show cnt p x (cut - x).toNat + cnt p cut (y - cut).toNat = cnt p x (y - x).toNat from c1.symm), if_pos (show cnt p x (y - x).toNat + cnt (inBd b (wid b a) (offAt o l)) x (y - x).toNat = y - x by omega)]
      exact Ev.bind awake_true (Ev.now _)
    · simp only [if_neg h0]; exact JT
end Go.Proofs.Ytbgojnjpkflofaa.Zp
