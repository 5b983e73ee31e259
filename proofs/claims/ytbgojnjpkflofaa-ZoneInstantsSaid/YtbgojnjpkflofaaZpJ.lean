/- The plain law ZoneInstants: the law's function comes to true. No condition but those in each theorem. -/
import Derived.Test.YtbgojnjpkflofaaZpI
import Derived.Test.YtbgojnjpkflofaaZpC
import Derived.Test.YtbgojnjpkflofaaPx8
namespace Go.Proofs.Ytbgojnjpkflofaa.Zp
open Go.RowKit Go.Proofs.YtbgojnjpkflofaaW.PrintWords Go.Proofs.YtbgojnjpkflofaaW.PrintLast Go.Proofs.YtbgojnjpkflofaaW.PrintMore
open Go.Proofs.Ytbgojnjpkflofaa.P

theorem rinst_loop (s : ByteArray) (o : Int) (l : List S52) (hc : Chain 0 l) (ho : offB o = true) (hl : l.length ≤ 16) (loc : Int) (hloc : -100000000 ≤ loc ∧ loc ≤ 100000000) (n : Nat) : ∀ (x : Int) (acc : List Int), x + n = loc + 841 → n ≤ 1681 → acc.length + n ≤ 100000 →
    Ev (fun k => pairingref5_Instants.l0 k acc loc x s o l) (acc ++ (ints x n).filter (fun t => insB t && decide (t + offAt o l t = loc)), 0) := by
  induction n with
  | zero =>
    intro x acc hx hn ha
    refine Ev.step (f := fun _ => some (acc, 0)) (fun k => ?_) ?_
    · simp only [pairingref5_Instants.l0]
      rw [wrap_id (by omega) (by omega), if_neg (by omega)]
    · simp only [ints, List.filter_nil, List.append_nil]
      exact Ev.now _
  | succ n ih =>
    intro x acc hx hn ha
    have hg := offB_iff.1 (offAt_ok l 0 o hc ho x)
    have hw : wrap64 (x + 1) = x + 1 := wrap_id (by omega) (by omega)
    have hw2 : wrap64 (loc + 840) = loc + 840 := wrap_id (by omega) (by omega)
    have hw3 : wrap64 (x + offAt o l x) = x + offAt o l x := wrap_id (by omega) (by omega)
    simp only [ints, List.filter_cons]
    by_cases h1 : insB x = true
    · have hO := roffset s o l hl x
      by_cases h2 : x + offAt o l x = loc
      · rw [if_pos (by simp [h1, h2])]
        refine Ev.step (f := fun k => (pairingref5_Offset.f k s o l x).bind fun t => if wrap64 (x + t) = loc then pairingref5_Instants.l0 k (acc ++ [x]) loc (x + 1) s o l else pairingref5_Instants.l0 k acc loc (x + 1) s o l) (fun k => ?_) ?_
        · simp only [pairingref5_Instants.l0]
          rw [hw2, if_pos (by omega), ins_f]
          simp only [Option.bind_some, h1, if_true, hw]
          rw [if_pos (show acc.length < 17592186044416 by omega)]
        · refine Ev.bind hO ?_
          simp only [hw3, if_pos h2]
          have := ih (x + 1) (acc ++ [x]) (by omega) (by omega) (by simp; omega)
          rw [List.append_assoc, List.singleton_append] at this
          exact this
      · rw [if_neg (by simp [h2])]
        refine Ev.step (f := fun k => (pairingref5_Offset.f k s o l x).bind fun t => if wrap64 (x + t) = loc then pairingref5_Instants.l0 k (acc ++ [x]) loc (x + 1) s o l else pairingref5_Instants.l0 k acc loc (x + 1) s o l) (fun k => ?_) ?_
        · simp only [pairingref5_Instants.l0]
          rw [hw2, if_pos (by omega), ins_f]
          simp only [Option.bind_some, h1, if_true, hw]
          rw [if_pos (show acc.length < 17592186044416 by omega)]
        · refine Ev.bind hO ?_
          simp only [hw3, if_neg h2]
          exact ih (x + 1) acc (by omega) (by omega) (by omega)
    · rw [if_neg (by simp [h1])]
      refine Ev.step (f := fun k => pairingref5_Instants.l0 k acc loc (x + 1) s o l) (fun k => ?_) (ih (x + 1) acc (by omega) (by omega) (by omega))
      simp only [pairingref5_Instants.l0]
      rw [hw2, if_pos (by omega), ins_f]
      simp only [Option.bind_some]
      rw [if_neg h1, hw]
theorem rinstants (s : ByteArray) (o : Int) (l : List S52) (day clock : Int) : Ev (fun k => pairingref5_Instants.f k s o l day clock) (insts s o l day clock) := by
  unfold pairingref5_Instants.f
  refine Ev.bind (rvalidate s o l) ?_
  unfold insts
  by_cases h0 : valErr s o l = 0
  · simp only [if_pos h0]
    obtain ⟨ho, hl, hc⟩ := chain_of_valid h0
    have J0 : Ev (fun k => pairingref5_Instants.j0 k day clock true s o l) (([] : List Int), 5) := Ev.step (f := fun _ => some (([] : List Int), 5)) (fun k => by simp only [pairingref5_Instants.j0, if_true]) (Ev.now _)
    by_cases h1 : clock < 0
    · simp only [if_pos h1]
      rw [if_pos (by omega)]
      exact J0
    · simp only [if_neg h1]
      by_cases h2 : clock > 1439
      · rw [if_pos (show clock < 0 ∨ clock > 1439 from .inr h2)]
        simp only [h2, decide_true]
        exact J0
      · rw [if_neg (show ¬ (clock < 0 ∨ clock > 1439) by omega)]
        simp only [h2, decide_false]
        have J1 : Ev (fun k => pairingref5_Instants.j1 k day clock ([] : List Int) true s o l) (([] : List Int), 0) := Ev.step (f := fun _ => some (([] : List Int), 0)) (fun k => by simp only [pairingref5_Instants.j1, if_true]) (Ev.now _)
        by_cases h3 : day < -2
        · rw [if_pos (by omega)]
          exact Ev.step (f := fun k => pairingref5_Instants.j1 k day clock ([] : List Int) true s o l) (fun k => by simp only [pairingref5_Instants.j0]; rw [if_neg (by decide), if_pos h3]) J1
        · by_cases h4 : day > 36527
          · rw [if_pos (by omega)]
            exact Ev.step (f := fun k => pairingref5_Instants.j1 k day clock ([] : List Int) true s o l) (fun k => by simp only [pairingref5_Instants.j0]; rw [if_neg (by decide), if_neg h3]; simp only [h4, decide_true]) J1
          · have R : Ev (fun k => pairingref5_Instants.j0 k day clock false s o l) (instL o l (1440 * day + clock), 0) := by
              refine Ev.step (f := fun k => pairingref5_Instants.j1 k day clock ([] : List Int) false s o l) (fun k => by simp only [pairingref5_Instants.j0]; rw [if_neg (by decide), if_neg h3]; simp only [h4, decide_false]) ?_
              refine Ev.step (f := fun k => pairingref5_Instants.l0 k ([] : List Int) (1440 * day + clock) (1440 * day + clock - 840) s o l) (fun k => ?_) ?_
              · simp only [pairingref5_Instants.j1]
                rw [if_neg (by decide), wrap_id (n := 1440 * day) (by omega) (by omega), wrap_id (n := 1440 * day + clock) (by omega) (by omega), wrap_id (by omega) (by omega)]
              · have := rinst_loop s o l hc ho hl (1440 * day + clock) ⟨by omega, by omega⟩ 1681 (1440 * day + clock - 840) [] (by omega) (by omega) (by simp)
                rw [List.nil_append] at this
                exact this
            by_cases h5 : day < -1 ∨ day > 36525
            · rw [if_pos h5]
              have e : instL o l (1440 * day + clock) = [] := by
                rw [List.eq_nil_iff_forall_not_mem]
                intro x hx
                have hm := (mem_instL o l _ hc ho x).1 hx
                have := offB_iff.1 (offAt_ok l 0 o hc ho x)
                omega
              rw [e] at R
              exact R
            · rw [if_neg h5]
              exact R
  · simp only [if_neg h0]; exact Ev.now _
theorem zoneInstants_true (s : ByteArray) (o : Int) (l : List S52) (day clock : Int) : Ev (fun k => pairinglaw7_ZoneInstants.f k s o l day clock) true := by
  unfold pairinglaw7_ZoneInstants.f
  by_cases h : (l.length : Int) > 40
  · simp only [if_pos h]
    exact Ev.bind awake_true (Ev.now _)
  · simp only [if_neg h]
    refine Ev.bind (instants s o l day clock) (Ev.bind (rinstants s o l day clock) ?_)
    simp only [if_true]
    refine Ev.bind (same_self _ (by have := insts_len s o l day clock; omega)) ?_
    simp only [if_true]
    exact Ev.bind awake_true (Ev.now _)
end Go.Proofs.Ytbgojnjpkflofaa.Zp
