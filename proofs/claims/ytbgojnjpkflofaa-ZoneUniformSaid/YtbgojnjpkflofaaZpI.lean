/- Plain laws on zones: what Instants comes to. No condition but those in each theorem. -/
import Derived.Test.YtbgojnjpkflofaaZpH
import Derived.Test.YtbgojnjpkflofaaPx7
namespace Go.Proofs.Ytbgojnjpkflofaa.Zp
open Go.RowKit Go.Proofs.YtbgojnjpkflofaaW.PrintWords Go.Proofs.YtbgojnjpkflofaaW.PrintLast Go.Proofs.YtbgojnjpkflofaaW.PrintMore
open Go.Proofs.Ytbgojnjpkflofaa.P

/-! ### the instants of a local minute -/
def instOf (loc : Int) : List S54 → List Int
  | [] => []
  | s :: r => (if s.f0 ≤ loc - s.f2 ∧ loc - s.f2 < s.f1 then [loc - s.f2] else []) ++ instOf loc r
theorem mem_instOf (g : Int → Int) (loc : Int) (l : List S54) : ∀ {A B : Int}, Part g A B l → ∀ x, x ∈ instOf loc l ↔ (A ≤ x ∧ x < B) ∧ x + g x = loc := by
  induction l with
  | nil => intro A B h x; have h' : B ≤ A := h; simp [instOf]; omega
  | cons s r ih =>
    intro A B h x
    obtain ⟨h1, h2, h3, h4, h5⟩ := h
    simp only [instOf, List.mem_append, ih h5 x]
    by_cases hx : x < s.f1
    · constructor
      · rintro (hm | hm)
        · split at hm
          · rename_i hc
            have e : x = loc - s.f2 := by simpa using hm
            have := h4 x (by omega) hx
            omega
          · simp at hm
        · omega
      · intro hm
        have := h4 x (by omega) hx
        left
        rw [if_pos (by omega)]
        simp; omega
    · constructor
      · rintro (hm | hm)
        · split at hm
          · rename_i hc
            have e : x = loc - s.f2 := by simpa using hm
            omega
          · simp at hm
        · omega
      · intro hm
        right
        omega
theorem asc_instOf (g : Int → Int) (loc : Int) (l : List S54) : ∀ {A B : Int}, Part g A B l → (instOf loc l).Pairwise (· < ·) := by
  induction l with
  | nil => intro A B _; exact List.Pairwise.nil
  | cons s r ih =>
    intro A B h
    obtain ⟨h1, h2, h3, h4, h5⟩ := h
    simp only [instOf]
    refine List.pairwise_append.2 ⟨by split <;> simp, ih h5, fun x hx y hy => ?_⟩
    have := (mem_instOf g loc r h5 y).1 hy
    split at hx
    · have e : x = loc - s.f2 := by simpa using hx
      omega
    · simp at hx
/-- The instants whose local minute is loc. -/
def instL (o : Int) (l : List S52) (loc : Int) : List Int := (ints (loc - 840) 1681).filter fun t => insB t && decide (t + offAt o l t = loc)
theorem mem_instL (o : Int) (l : List S52) (loc : Int) (hc : Chain 0 l) (ho : offB o = true) (x : Int) : x ∈ instL o l loc ↔ (0 ≤ x ∧ x < 52596000) ∧ x + offAt o l x = loc := by
  unfold instL
  simp only [List.mem_filter, mem_ints, Bool.and_eq_true, decide_eq_true_eq, insB_iff]
  have := offB_iff.1 (offAt_ok l 0 o hc ho x)
  omega
theorem instOf_eq (o : Int) (l : List S52) (loc : Int) (hc : Chain 0 l) (ho : offB o = true) : instOf loc (segsFrom 0 52596000 0 o l) = instL o l loc := by
  have P := segs_part 0 52596000 l 0 o hc (by omega)
  rw [show mx 0 0 = (0 : Int) from rfl, show mn 52596000 52596000 = (52596000 : Int) from rfl] at P
  exact asc_ext (asc_instOf _ loc _ P) (asc_filter _ (asc_ints _ _)) (fun x => by rw [mem_instOf _ loc _ P x, mem_instL o l loc hc ho x])
theorem instL_len (o : Int) (l : List S52) (loc : Int) : (instL o l loc).length ≤ 1681 := by
  unfold instL
  exact Nat.le_trans (List.length_filter_le _ _) (by rw [len_ints]; exact Nat.le_refl _)
theorem inst_loop (day clock : Int) (hd : -10 ≤ day ∧ day ≤ 40000) (hk : 0 ≤ clock ∧ clock ≤ 1439) (L : List S54) (hS : Small L) (hL : L.length ≤ 100) (d : Nat) : ∀ (i : Nat) (acc : List Int), i + d = L.length → acc.length ≤ i →
    Ev (fun k => zone_Instants.l0 k day clock acc L (L.length : Int) (i : Int)) (acc ++ instOf (1440 * day + clock) (L.drop i), 0) := by
  induction d with
  | zero =>
    intro i acc hi ha
    refine Ev.step (f := fun _ => some (acc, 0)) (fun k => ?_) ?_
    · simp only [zone_Instants.l0]
      rw [if_neg (by omega)]
    · rw [List.drop_eq_nil_of_le (by omega)]
      simp only [instOf, List.append_nil]
      exact Ev.now _
  | succ d ih =>
    intro i acc hi ha
    have hw : wrap64 ((i : Int) + 1) = ((i + 1 : Nat) : Int) := by rw [wrap_id (by omega) (by omega)]; omega
    have hs := hS _ (rd54_mem L i (by omega))
    have e1 : wrap64 (wrap64 (wrap64 (1440 * day) + clock) - (rd_T54 L (i : Int)).f2) = 1440 * day + clock - (rd_T54 L (i : Int)).f2 := by
      rw [wrap_id (n := 1440 * day) (by omega) (by omega), wrap_id (n := 1440 * day + clock) (by omega) (by omega), wrap_id (by omega) (by omega)]
    rw [drop54 L i (by omega)]
    simp only [instOf]
    by_cases h1 : 1440 * day + clock - (rd_T54 L (i : Int)).f2 ≥ (rd_T54 L (i : Int)).f0
    · by_cases h2 : 1440 * day + clock - (rd_T54 L (i : Int)).f2 < (rd_T54 L (i : Int)).f1
      · rw [if_pos ⟨h1, h2⟩, ← List.append_assoc]
        refine Ev.step (f := fun k => zone_Instants.l0 k day clock (acc ++ [1440 * day + clock - (rd_T54 L (i : Int)).f2]) L (L.length : Int) ((i + 1 : Nat) : Int)) (fun k => ?_) (ih (i + 1) _ (by omega) (by simp; omega))
        simp only [zone_Instants.l0]
        rw [if_pos (by omega), if_pos (by omega), if_pos (by omega), e1, if_pos h1, if_pos h2, if_pos (by omega), hw]
      · rw [if_neg (by omega), List.nil_append]
        refine Ev.step (f := fun k => zone_Instants.l0 k day clock acc L (L.length : Int) ((i + 1 : Nat) : Int)) (fun k => ?_) (ih (i + 1) _ (by omega) (by omega))
        simp only [zone_Instants.l0]
        rw [if_pos (by omega), if_pos (by omega), if_pos (by omega), e1, if_pos h1, if_neg h2, hw]
    · rw [if_neg (by omega), List.nil_append]
      refine Ev.step (f := fun k => zone_Instants.l0 k day clock acc L (L.length : Int) ((i + 1 : Nat) : Int)) (fun k => ?_) (ih (i + 1) _ (by omega) (by omega))
      simp only [zone_Instants.l0]
      rw [if_pos (by omega), if_pos (by omega), if_pos (by omega), e1, if_neg h1, hw]
/-- What Instants comes to. -/
def insts (s : ByteArray) (o : Int) (l : List S52) (day clock : Int) : List Int × Int :=
  if valErr s o l = 0 then (if clock < 0 ∨ clock > 1439 then ([], 5) else if day < -1 ∨ day > 36525 then ([], 0) else (instL o l (1440 * day + clock), 0)) else ([], valErr s o l)
theorem instants (s : ByteArray) (o : Int) (l : List S52) (day clock : Int) : Ev (fun k => zone_Instants.f k s o l day clock) (insts s o l day clock) := by
  unfold zone_Instants.f
  refine Ev.bind (validate s o l) ?_
  unfold insts
  by_cases h0 : valErr s o l = 0
  · simp only [if_pos h0]
    obtain ⟨ho, hl, hc⟩ := chain_of_valid h0
    have J0 : Ev (fun k => zone_Instants.j0 k day clock true s o l) (([] : List Int), 5) := Ev.step (f := fun _ => some (([] : List Int), 5)) (fun k => by simp only [zone_Instants.j0, if_true]) (Ev.now _)
    by_cases h1 : clock < 0
    · simp only [if_pos h1]
      rw [if_pos (by omega)]
      exact J0
    · simp only [if_neg h1]
      by_cases h2 : clock ≥ 1440
      · simp only [h2, decide_true]
        rw [if_pos (by omega)]
        exact J0
      · simp only [h2, decide_false]
        rw [if_neg (by omega)]
        have J1 : Ev (fun k => zone_Instants.j1 k day clock true s o l) (([] : List Int), 0) := Ev.step (f := fun _ => some (([] : List Int), 0)) (fun k => by simp only [zone_Instants.j1, if_true]) (Ev.now _)
        by_cases h3 : day < -1
        · rw [if_pos (by omega)]
          exact Ev.step (f := fun k => zone_Instants.j1 k day clock true s o l) (fun k => by simp only [zone_Instants.j0]; rw [if_neg (by decide), if_pos h3]) J1
        · by_cases h4 : day > 36525
          · rw [if_pos (by omega)]
            exact Ev.step (f := fun k => zone_Instants.j1 k day clock true s o l) (fun k => by simp only [zone_Instants.j0]; rw [if_neg (by decide), if_neg h3]; simp only [h4, decide_true]) J1
          · rw [if_neg (by omega)]
            refine Ev.step (f := fun k => zone_Instants.j1 k day clock false s o l) (fun k => by simp only [zone_Instants.j0]; rw [if_neg (by decide), if_neg h3]; simp only [h4, decide_false]) ?_
            have hl' : l.length ≤ 90 := by omega
            refine Ev.step (f := fun k => zone_Instants.l0 k day clock ([] : List Int) (segsFrom 0 52596000 0 o l) ((segsFrom 0 52596000 0 o l).length : Int) 0) (fun k => ?_) ?_
            · simp only [zone_Instants.j1, zone_segments.f]
              rw [if_neg (by decide), if_pos hl']
              rfl
            · have := inst_loop day clock ⟨by omega, by omega⟩ ⟨by omega, by omega⟩ (segsFrom 0 52596000 0 o l) (segs_small 0 52596000 o l hc ho (by omega) (by omega)) (by have := segs_len 0 52596000 l 0 o; omega) (segsFrom 0 52596000 0 o l).length 0 [] (by omega) (by simp)
              rw [List.drop_zero, List.nil_append, instOf_eq o l _ hc ho] at this
              exact this
  · simp only [if_neg h0]; exact Ev.now _
theorem same_loop (a : List Int) (ha : a.length ≤ 100000) (d : Nat) : ∀ i : Nat, i + d = a.length → Ev (fun k => pairinglaw7_same.l0 k a a (i : Int)) true := by
  induction d with
  | zero =>
    intro i hi
    refine Ev.step (f := fun _ => some true) (fun k => ?_) (Ev.now _)
    simp only [pairinglaw7_same.l0]
    rw [if_neg (by omega)]
  | succ d ih =>
    intro i hi
    have hw : wrap64 ((i : Int) + 1) = ((i + 1 : Nat) : Int) := by rw [wrap_id (by omega) (by omega)]; omega
    refine Ev.step (f := fun k => pairinglaw7_same.l0 k a a ((i + 1 : Nat) : Int)) (fun k => ?_) (ih (i + 1) (by omega))
    simp only [pairinglaw7_same.l0]
    rw [if_pos (by omega), if_pos (by omega), if_pos (by omega), if_pos trivial, hw]
theorem same_self (a : List Int) (ha : a.length ≤ 100000) : Ev (fun k => pairinglaw7_same.f k a a) true := by
  unfold pairinglaw7_same.f
  simp only [if_true]
  exact same_loop a ha a.length 0 (by omega)
theorem insts_len (s : ByteArray) (o : Int) (l : List S52) (day clock : Int) : (insts s o l day clock).1.length ≤ 1681 := by
  unfold insts
  have := instL_len o l (1440 * day + clock)
  split
  · split
    · simp
    · split
      · simp
      · exact this
  · simp
end Go.Proofs.Ytbgojnjpkflofaa.Zp
