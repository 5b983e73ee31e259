/- Plain laws on zones: what the reference's IsName and ValidateZone come to. No condition but those in each theorem. -/
import Derived.Test.YtbgojnjpkflofaaZpA
import Derived.Test.YtbgojnjpkflofaaPx2
namespace Go.Proofs.Ytbgojnjpkflofaa.Zp
open Go.RowKit Go.Proofs.YtbgojnjpkflofaaW.PrintWords Go.Proofs.YtbgojnjpkflofaaW.PrintLast Go.Proofs.YtbgojnjpkflofaaW.PrintMore
open Go.Proofs.Ytbgojnjpkflofaa.P

theorem rlow (c : Int) : pairingref5_lower.f c = some (isLow c) := by
  unfold pairingref5_lower.f isLow
  by_cases h : c ≥ 97
  · rw [if_pos h]; simp [h]
  · rw [if_neg h]; simp only [ge_iff_le] at h; simp [h]
theorem rdig (c : Int) : pairingref5_number.f c = some (isDig c) := by
  unfold pairingref5_number.f isDig
  by_cases h : c ≥ 48
  · rw [if_pos h]; simp [h]
  · rw [if_neg h]; simp only [ge_iff_le] at h; simp [h]
theorem isName_loop (s : ByteArray) (hs : s.size ≤ 16) (d : Nat) : ∀ i : Nat, i + d = s.size → (∀ j : Nat, j < i → isNm (bt s (j : Int)) = true) → Ev (fun k => pairingref5_IsName.l0 k s (i : Int)) (nmAll s) := by
  induction d with
  | zero =>
    intro i hi hj
    refine Ev.step (f := fun _ => some (nmAll s)) (fun k => ?_) (Ev.now _)
    simp only [pairingref5_IsName.l0]
    rw [if_neg (by omega), nmAll_true (fun j h => hj j (by omega))]
  | succ d ih =>
    intro i hi hj
    have hw : wrap64 ((i : Int) + 1) = ((i + 1 : Nat) : Int) := by rw [wrap_id (by omega) (by omega)]; omega
    by_cases hn : isNm (bt s (i : Int)) = true
    · refine Ev.step (f := fun k => pairingref5_IsName.l0 k s ((i + 1 : Nat) : Int)) (fun k => ?_) (ih (i + 1) (by omega) (fun j h => ?_))
      · simp only [pairingref5_IsName.l0]
        rw [if_pos (by omega), if_pos (by omega), rlow, rdig, hw]
        simp only [Option.bind_some]
        by_cases h1 : isLow (bt s (i : Int)) = true
        · rw [if_pos h1]
        · rw [if_neg h1]
          by_cases h2 : isDig (bt s (i : Int)) = true
          · rw [if_pos h2]
          · rw [if_neg h2, if_pos]
            simpa [isNm, h1, h2] using hn
      · by_cases e : j = i
        · subst e; exact hn
        · exact hj j (by omega)
    · replace hn : isNm (bt s (i : Int)) = false := by simpa using hn
      have hn' := hn
      simp only [isNm, Bool.or_eq_false_iff, decide_eq_false_iff_not] at hn'
      refine Ev.step (f := fun _ => some (nmAll s)) (fun k => ?_) (Ev.now _)
      simp only [pairingref5_IsName.l0]
      rw [if_pos (by omega), if_pos (by omega), rlow, rdig]
      simp only [Option.bind_some]
      rw [if_neg (by simp [hn'.1.1]), if_neg (by simp [hn'.1.2]), if_neg hn'.2, nmAll_false i (by omega) hn]
theorem isName_ref (s : ByteArray) : Ev (fun k => pairingref5_IsName.f k s) (nameB s) := by
  unfold pairingref5_IsName.f
  by_cases h1 : (s.size : Int) < 1
  · simp only [if_pos h1]
    refine Ev.step (f := fun _ => some (nameB s)) (fun k => ?_) (Ev.now _)
    simp only [pairingref5_IsName.j0, if_true]
    have : ¬ 1 ≤ s.size := by omega
    simp [nameB, this]
  · simp only [if_neg h1]
    by_cases h2 : (s.size : Int) > 16
    · simp only [if_pos h2]
      refine Ev.step (f := fun _ => some (nameB s)) (fun k => ?_) (Ev.now _)
      simp only [pairingref5_IsName.j0, if_true]
      have : ¬ s.size ≤ 16 := by omega
      simp [nameB, this]
    · simp only [if_neg h2]
      have hp : 0 < (s.size : Int) := by omega
      simp only [if_pos hp, rlow, Option.bind_some]
      have e1 : 1 ≤ s.size := by omega
      have e2 : s.size ≤ 16 := by omega
      by_cases h3 : isLow (bt s 0) = true
      · have e : nameB s = nmAll s := by simp [nameB, e1, e2, h3]
        rw [e, h3]
        refine Ev.step (f := fun k => pairingref5_IsName.l0 k s 0) (fun k => ?_) (isName_loop s e2 s.size 0 (by omega) (fun j h => by omega))
        simp [pairingref5_IsName.j0]
      · replace h3 : isLow (bt s 0) = false := by simpa using h3
        have e : nameB s = false := by simp [nameB, h3]
        rw [e, h3]
        refine Ev.step (f := fun _ => some false) (fun k => ?_) (Ev.now _)
        simp [pairingref5_IsName.j0]
theorem roff_f (n : Int) : pairingref5_offset.f n = some (offB n) := by
  unfold pairingref5_offset.f offB
  by_cases h : n ≥ -840
  · rw [if_pos h]; simp [h]
  · rw [if_neg h]; simp only [ge_iff_le] at h; simp [h]
theorem ins_f (n : Int) : pairingref5_instant.f n = some (insB n) := by
  unfold pairingref5_instant.f insB
  by_cases h : n ≥ 0
  · rw [if_pos h]; simp [h]
  · rw [if_neg h]; simp only [ge_iff_le] at h; simp [h]
theorem rvalidate_loop (s : ByteArray) (o : Int) (l : List S52) (hl : l.length ≤ 16) (d : Nat) : ∀ i : Nat, i + d = l.length → Ev (fun k => pairingref5_ValidateZone.l0 k (i : Int) s o l) (shErr (prevOf l i) (l.drop i)) := by
  induction d with
  | zero =>
    intro i hi
    refine Ev.step (f := fun _ => some (shErr (prevOf l i) (l.drop i))) (fun k => ?_) (Ev.now _)
    simp only [pairingref5_ValidateZone.l0]
    rw [if_neg (by omega), List.drop_eq_nil_of_le (by omega)]
    simp [shErr]
  | succ d ih =>
    intro i hi
    have hw : wrap64 ((i : Int) + 1) = ((i + 1 : Nat) : Int) := by rw [wrap_id (by omega) (by omega)]; omega
    have hw1 : wrap64 ((i : Int) - 1) = (i : Int) - 1 := wrap_id (by omega) (by omega)
    have IH := ih (i + 1) (by omega)
    rw [shErr_at l i (by omega)]
    have J : ∀ b : Bool, Ev (fun k => pairingref5_ValidateZone.j1 k (i : Int) b s o l) (if b = true then 5 else (if i > 0 ∧ (rd_T52 l (i : Int)).f0 ≤ (rd_T52 l ((i : Int) - 1)).f0 then 8 else shErr (prevOf l (i + 1)) (l.drop (i + 1)))) := by
      intro b
      cases b with
      | true =>
        refine Ev.step (f := fun _ => some 5) (fun k => ?_) (Ev.now _)
        simp [pairingref5_ValidateZone.j1]
      | false =>
        by_cases h0 : i > 0
        · by_cases h1 : (rd_T52 l (i : Int)).f0 ≤ (rd_T52 l ((i : Int) - 1)).f0
          · refine Ev.step (f := fun _ => some 8) (fun k => ?_) ?_
            · simp only [pairingref5_ValidateZone.j1]
              rw [if_neg (by decide), if_pos (by omega), hw1, if_pos (by omega), if_pos (by omega), if_pos (by omega), if_pos (by omega), if_pos h1]
            · simp only [h0, h1, and_self, if_true]
              exact Ev.now _
          · refine Ev.step (f := fun k => pairingref5_ValidateZone.l0 k ((i + 1 : Nat) : Int) s o l) (fun k => ?_) ?_
            · simp only [pairingref5_ValidateZone.j1]
              rw [if_neg (by decide), if_pos (by omega), hw1, if_pos (by omega), if_pos (by omega), if_pos (by omega), if_pos (by omega), if_neg h1, hw]
            · simp only [h1, and_false, if_false]
              exact IH
        · refine Ev.step (f := fun k => pairingref5_ValidateZone.l0 k ((i + 1 : Nat) : Int) s o l) (fun k => ?_) ?_
          · simp only [pairingref5_ValidateZone.j1]
            rw [if_neg (by decide), if_neg (by omega), hw]
          · simp only [h0, false_and, if_false]
            exact IH
    cases hb : insB (rd_T52 l (i : Int)).f0 with
    | false =>
      refine Ev.step (f := fun k => pairingref5_ValidateZone.j1 k (i : Int) true s o l) (fun k => ?_) (by simpa using J true)
      simp only [pairingref5_ValidateZone.l0]
      rw [if_pos (by omega), if_pos (by omega), ins_f, hb]
      simp
    | true =>
      refine Ev.step (f := fun k => pairingref5_ValidateZone.j1 k (i : Int) (!(offB (rd_T52 l (i : Int)).f1)) s o l) (fun k => ?_) ?_
      · simp only [pairingref5_ValidateZone.l0]
        rw [if_pos (by omega), if_pos (by omega), ins_f, hb, roff_f]
        simp
      · have := J (!(offB (rd_T52 l (i : Int)).f1))
        cases ho : offB (rd_T52 l (i : Int)).f1 <;> rw [ho] at this <;> simpa using this
theorem rvalidate (s : ByteArray) (o : Int) (l : List S52) : Ev (fun k => pairingref5_ValidateZone.f k s o l) (valErr s o l) := by
  unfold pairingref5_ValidateZone.f
  refine Ev.bind (isName_ref s) ?_
  simp only [roff_f, Option.bind_some]
  unfold valErr
  by_cases h1 : nameB s = true
  · simp only [if_pos h1]
    by_cases h2 : offB o = true
    · simp only [if_pos h2]
      by_cases h3 : (l.length : Int) > 16
      · simp only [if_pos h3]; exact Ev.now _
      · simp only [if_neg h3]
        exact rvalidate_loop s o l (by omega) l.length 0 (by omega)
    · simp only [if_neg h2]; exact Ev.now _
  · simp only [if_neg h1]; exact Ev.now _
end Go.Proofs.Ytbgojnjpkflofaa.Zp
