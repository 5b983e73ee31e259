/- Plain laws on zones: Instants; the law ZoneInstants. -/
import Derived.Test.YtbgojnjpkflofaaZp4
import Derived.Test.YtbgojnjpkflofaaPx6
namespace Go.Proofs.Ytbgojnjpkflofaa.Zp
open Go.RowKit Go.Proofs.YtbgojnjpkflofaaW.PrintWords Go.Proofs.YtbgojnjpkflofaaW.PrintLast Go.Proofs.YtbgojnjpkflofaaW.PrintMore
open Go.Proofs.Ytbgojnjpkflofaa.P

/-! ### ascending lists -/
theorem asc_ext : ∀ {a b : List Int}, a.Pairwise (· < ·) → b.Pairwise (· < ·) → (∀ x, x ∈ a ↔ x ∈ b) → a = b
  | [], [], _, _, _ => rfl
  | [], y :: b, _, _, h => absurd ((h y).2 List.mem_cons_self) (by simp)
  | x :: a, [], _, _, h => absurd ((h x).1 List.mem_cons_self) (by simp)
  | x :: a, y :: b, ha, hb, h => by
    obtain ⟨ha1, ha2⟩ := List.pairwise_cons.1 ha
    obtain ⟨hb1, hb2⟩ := List.pairwise_cons.1 hb
    have hx := (h x).1 List.mem_cons_self
    have hy := (h y).2 List.mem_cons_self
    have e : x = y := by
      rcases List.mem_cons.1 hx with e | hx
      · exact e
      · rcases List.mem_cons.1 hy with e | hy
        · exact e.symm
        · have := ha1 y hy
          have := hb1 x hx
          omega
    subst e
    congr 1
    refine asc_ext ha2 hb2 (fun z => ⟨fun hz => ?_, fun hz => ?_⟩)
    · rcases List.mem_cons.1 ((h z).1 (List.mem_cons_of_mem _ hz)) with e | hz'
      · have := ha1 z hz; omega
      · exact hz'
    · rcases List.mem_cons.1 ((h z).2 (List.mem_cons_of_mem _ hz)) with e | hz'
      · have := hb1 z hz; omega
      · exact hz'
/-- n whole numbers from x on. -/
def ints : Int → Nat → List Int
  | _, 0 => []
  | x, n + 1 => x :: ints (x + 1) n
theorem mem_ints (n : Nat) : ∀ (x y : Int), y ∈ ints x n ↔ x ≤ y ∧ y < x + n := by
  induction n with
  | zero => intro x y; simp only [ints, List.not_mem_nil, false_iff]; omega
  | succ n ih =>
    intro x y
    simp only [ints, List.mem_cons, ih]
    omega
theorem asc_ints (n : Nat) : ∀ x : Int, (ints x n).Pairwise (· < ·) := by
  induction n with
  | zero => intro x; exact List.Pairwise.nil
  | succ n ih =>
    intro x
    refine List.pairwise_cons.2 ⟨fun y hy => ?_, ih _⟩
    have := (mem_ints n _ _).1 hy
    omega
theorem len_ints (n : Nat) : ∀ x : Int, (ints x n).length = n := by
  induction n with
  | zero => intro x; rfl
  | succ n ih => intro x; simp [ints, ih]
theorem asc_filter {l : List Int} (p : Int → Bool) (h : l.Pairwise (· < ·)) : (l.filter p).Pairwise (· < ·) := h.filter p

/-! ### the instants of a local minute -/
def instOf (loc : Int) : List S54 → List Int
  | [] => []
  | s :: r => (if s.f0 ≤ loc - s.f2 ∧ loc - s.f2 < s.f1 then [loc - s.f2] else []) ++ instOf loc r
theorem mem_instOf (g : Int → Int) (loc : Int) (l : List S54) : ∀ {A B : Int}, Part g A B l → ∀ x, x ∈ instOf loc l ↔ (A ≤ x ∧ x < B) ∧ x + g x = loc := by
  induction l with
  | nil => intro A B h x; have h' : B ≤ A := h; simp [instOf]; omega
  | cons s r ih =>
    intro A B h x
    obtain ⟨h1, h2, h3, h4, h5⟩ := h
    simp only [instOf, List.mem_append, ih h5 x]
    by_cases hx : x < s.f1
    · constructor
      · rintro (hm | hm)
        · split at hm
          · rename_i hc
            have e : x = loc - s.f2 := by simpa using hm
            have := h4 x (by omega) hx
            omega
          · simp at hm
        · omega
      · intro hm
        have := h4 x (by omega) hx
        left
        rw [if_pos (by omega)]
        simp; omega
    · constructor
      · rintro (hm | hm)
        · split at hm
          · rename_i hc
            have e : x = loc - s.f2 := by simpa using hm
            omega
          · simp at hm
        · omega
      · intro hm
        right
        omega
theorem asc_instOf (g : Int → Int) (loc : Int) (l : List S54) : ∀ {A B : Int}, Part g A B l → (instOf loc l).Pairwise (· < ·) := by
  induction l with
  | nil => intro A B _; exact List.Pairwise.nil
  | cons s r ih =>
    intro A B h
    obtain ⟨h1, h2, h3, h4, h5⟩ := h
    simp only [instOf]
    refine List.pairwise_append.2 ⟨by split <;> simp, ih h5, fun x hx y hy => ?_⟩
    have := (mem_instOf g loc r h5 y).1 hy
    split at hx
    · have e : x = loc - s.f2 := by simpa using hx
      omega
    · simp at hx
/-- The instants whose local minute is loc. -/
def instL (o : Int) (l : List S52) (loc : Int) : List Int := (ints (loc - 840) 1681).filter fun t => insB t && decide (t + offAt o l t = loc)
theorem insB_iff {t : Int} : insB t = true ↔ 0 ≤ t ∧ t < 52596000 := by simp [insB]
theorem mem_instL (o : Int) (l : List S52) (loc : Int) (hc : Chain 0 l) (ho : offB o = true) (x : Int) : x ∈ instL o l loc ↔ (0 ≤ x ∧ x < 52596000) ∧ x + offAt o l x = loc := by
  unfold instL
  simp only [List.mem_filter, mem_ints, Bool.and_eq_true, decide_eq_true_eq, insB_iff]
  have := offB_iff.1 (offAt_ok l 0 o hc ho x)
  omega
theorem instOf_eq (o : Int) (l : List S52) (loc : Int) (hc : Chain 0 l) (ho : offB o = true) : instOf loc (segsFrom 0 52596000 0 o l) = instL o l loc := by
  have P := segs_part 0 52596000 l 0 o hc (by omega)
  rw [show mx 0 0 = (0 : Int) from rfl, show mn 52596000 52596000 = (52596000 : Int) from rfl] at P
  exact asc_ext (asc_instOf _ loc _ P) (asc_filter _ (asc_ints _ _)) (fun x => by rw [mem_instOf _ loc _ P x, mem_instL o l loc hc ho x])
theorem segs_len (sf st : Int) (l : List S52) : ∀ a o : Int, (segsFrom sf st a o l).length ≤ l.length + 1 := by
  induction l with
  | nil => intro a o; simp only [segsFrom]; have := clipS_len sf st a 52596000 o; simpa using this
  | cons x r ih =>
    intro a o
    simp only [segsFrom, List.length_append, List.length_cons]
    have := clipS_len sf st a x.f0 o
    have := ih x.f0 x.f1
    omega
theorem instL_len (o : Int) (l : List S52) (loc : Int) : (instL o l loc).length ≤ 1681 := by
  unfold instL
  exact Nat.le_trans (List.length_filter_le _ _) (by rw [len_ints]; exact Nat.le_refl _)

theorem drop54 (l : List S54) (i : Nat) (h : i < l.length) : l.drop i = rd_T54 l (i : Int) :: l.drop (i + 1) := by
  rw [List.drop_eq_getElem_cons h]
  unfold rd_T54
  rw [show ((i : Int)).toNat = i from by omega, List.getD_eq_getElem?_getD, List.getElem?_eq_getElem h]
  rfl
/-- Every stretch's ends and number are small. -/
def Small (l : List S54) : Prop := ∀ s ∈ l, -1000000000 ≤ s.f0 ∧ s.f0 ≤ 1000000000 ∧ -1000000000 ≤ s.f1 ∧ s.f1 ≤ 1000000000 ∧ -1000000000 ≤ s.f2 ∧ s.f2 ≤ 1000000000
theorem rd54_mem (l : List S54) (i : Nat) (h : i < l.length) : rd_T54 l (i : Int) ∈ l := by
  unfold rd_T54
  rw [show ((i : Int)).toNat = i from by omega, List.getD_eq_getElem?_getD, List.getElem?_eq_getElem h]
  exact List.getElem_mem h
theorem Part.mem {g : Int → Int} {l : List S54} : ∀ {A B : Int}, Part g A B l → ∀ s ∈ l, A ≤ s.f0 ∧ s.f0 < s.f1 ∧ s.f1 ≤ B ∧ s.f2 = g s.f0 := by
  induction l with
  | nil => intro A B _ s hs; cases hs
  | cons x r ih =>
    intro A B h s hs
    obtain ⟨h1, h2, h3, h4, h5⟩ := h
    rcases List.mem_cons.1 hs with rfl | hs
    · exact ⟨by omega, h2, h3, (h4 _ (by omega) h2).symm⟩
    · have := ih h5 s hs
      exact ⟨by omega, this.2⟩
theorem segs_small (sf st : Int) (o : Int) (l : List S52) (hc : Chain 0 l) (ho : offB o = true) (h0 : -500000000 ≤ sf) (h1 : sf ≤ 500000000) : Small (segsFrom sf st 0 o l) := by
  intro s hs
  have P := (segs_part sf st l 0 o hc (by omega)).mem s hs
  have h2 := offB_iff.1 (offAt_ok l 0 o hc ho s.f0)
  have h3 : mn 52596000 st ≤ 52596000 := by unfold mn; split <;> omega
  have h4 : mx 0 sf ≥ 0 := by unfold mx; split <;> omega
  omega

theorem inst_loop (day clock : Int) (hd : -10 ≤ day ∧ day ≤ 40000) (hk : 0 ≤ clock ∧ clock ≤ 1439) (L : List S54) (hS : Small L) (hL : L.length ≤ 100) (d : Nat) : ∀ (i : Nat) (acc : List Int), i + d = L.length → acc.length ≤ i →
    Ev (fun k => zone_Instants.l0 k day clock acc L (L.length : Int) (i : Int)) (acc ++ instOf (1440 * day + clock) (L.drop i), 0) := by
  induction d with
  | zero =>
    intro i acc hi ha
    refine Ev.step (f := fun _ => some (acc, 0)) (fun k => ?_) ?_
    · simp only [zone_Instants.l0]
      rw [if_neg (by omega)]
    · rw [List.drop_eq_nil_of_le (by omega)]
      simp only [instOf, List.append_nil]
      exact Ev.now _
  | succ d ih =>
    intro i acc hi ha
    have hw : wrap64 ((i : Int) + 1) = ((i + 1 : Nat) : Int) := by rw [wrap_id (by omega) (by omega)]; omega
    have hs := hS _ (rd54_mem L i (by omega))
    have e1 : wrap64 (wrap64 (wrap64 (1440 * day) + clock) - (rd_T54 L (i : Int)).f2) = 1440 * day + clock - (rd_T54 L (i : Int)).f2 := by
      rw [wrap_id (n := 1440 * day) (by omega) (by omega), wrap_id (n := 1440 * day + clock) (by omega) (by omega), wrap_id (by omega) (by omega)]
    rw [drop54 L i (by omega)]
    simp only [instOf]
    by_cases h1 : 1440 * day + clock - (rd_T54 L (i : Int)).f2 ≥ (rd_T54 L (i : Int)).f0
    · by_cases h2 : 1440 * day + clock - (rd_T54 L (i : Int)).f2 < (rd_T54 L (i : Int)).f1
      · rw [if_pos ⟨h1, h2⟩, ← List.append_assoc]
        refine Ev.step (f := fun k => zone_Instants.l0 k day clock (acc ++ [1440 * day + clock - (rd_T54 L (i : Int)).f2]) L (L.length : Int) ((i + 1 : Nat) : Int)) (fun k => ?_) (ih (i + 1) _ (by omega) (by simp; omega))
        simp only [zone_Instants.l0]
        rw [if_pos (by omega), if_pos (by omega), if_pos (by omega), e1, if_pos h1, if_pos h2, if_pos (by omega), hw]
      · rw [if_neg (by omega), List.nil_append]
        refine Ev.step (f := fun k => zone_Instants.l0 k day clock acc L (L.length : Int) ((i + 1 : Nat) : Int)) (fun k => ?_) (ih (i + 1) _ (by omega) (by omega))
        simp only [zone_Instants.l0]
        rw [if_pos (by omega), if_pos (by omega), if_pos (by omega), e1, if_pos h1, if_neg h2, hw]
    · rw [if_neg (by omega), List.nil_append]
      refine Ev.step (f := fun k => zone_Instants.l0 k day clock acc L (L.length : Int) ((i + 1 : Nat) : Int)) (fun k => ?_) (ih (i + 1) _ (by omega) (by omega))
      simp only [zone_Instants.l0]
      rw [if_pos (by omega), if_pos (by omega), if_pos (by omega), e1, if_neg h1, hw]

/-- What Instants comes to. -/
def insts (s : ByteArray) (o : Int) (l : List S52) (day clock : Int) : List Int × Int :=
  if valErr s o l = 0 then (if clock < 0 ∨ clock > 1439 then ([], 5) else if day < -1 ∨ day > 36525 then ([], 0) else (instL o l (1440 * day + clock), 0)) else ([], valErr s o l)
theorem instants (s : ByteArray) (o : Int) (l : List S52) (day clock : Int) : Ev (fun k => zone_Instants.f k s o l day clock) (insts s o l day clock) := by
  unfold zone_Instants.f
  refine Ev.bind (validate s o l) ?_
  unfold insts
  by_cases h0 : valErr s o l = 0
  · simp only [if_pos h0]
    obtain ⟨ho, hl, hc⟩ := chain_of_valid h0
    have J0 : Ev (fun k => zone_Instants.j0 k day clock true s o l) (([] : List Int), 5) := Ev.step (f := fun _ => some (([] : List Int), 5)) (fun k => by simp only [zone_Instants.j0, if_true]) (Ev.now _)
    by_cases h1 : clock < 0
    · simp only [if_pos h1]
      rw [if_pos (by omega)]
      exact J0
    · simp only [if_neg h1]
      by_cases h2 : clock ≥ 1440
      · simp only [h2, decide_true]
        rw [if_pos (by omega)]
        exact J0
      · simp only [h2, decide_false]
        rw [if_neg (by omega)]
        have J1 : Ev (fun k => zone_Instants.j1 k day clock true s o l) (([] : List Int), 0) := Ev.step (f := fun _ => some (([] : List Int), 0)) (fun k => by simp only [zone_Instants.j1, if_true]) (Ev.now _)
        by_cases h3 : day < -1
        · rw [if_pos (by omega)]
          exact Ev.step (f := fun k => zone_Instants.j1 k day clock true s o l) (fun k => by simp only [zone_Instants.j0]; rw [if_neg (by decide), if_pos h3]) J1
        · by_cases h4 : day > 36525
          · rw [if_pos (by omega)]
            exact Ev.step (f := fun k => zone_Instants.j1 k day clock true s o l) (fun k => by simp only [zone_Instants.j0]; rw [if_neg (by decide), if_neg h3]; simp only [h4, decide_true]) J1
          · rw [if_neg (by omega)]
            refine Ev.step (f := fun k => zone_Instants.j1 k day clock false s o l) (fun k => by simp only [zone_Instants.j0]; rw [if_neg (by decide), if_neg h3]; simp only [h4, decide_false]) ?_
            have hl' : l.length ≤ 90 := by omega
            refine Ev.step (f := fun k => zone_Instants.l0 k day clock ([] : List Int) (segsFrom 0 52596000 0 o l) ((segsFrom 0 52596000 0 o l).length : Int) 0) (fun k => ?_) ?_
            · simp only [zone_Instants.j1, zone_segments.f]
              rw [if_neg (by decide), if_pos hl']
              rfl
            · have := inst_loop day clock ⟨by omega, by omega⟩ ⟨by omega, by omega⟩ (segsFrom 0 52596000 0 o l) (segs_small 0 52596000 o l hc ho (by omega) (by omega)) (by have := segs_len 0 52596000 l 0 o; omega) (segsFrom 0 52596000 0 o l).length 0 [] (by omega) (by simp)
              rw [List.drop_zero, List.nil_append, instOf_eq o l _ hc ho] at this
              exact this
  · simp only [if_neg h0]; exact Ev.now _

theorem rinst_loop (s : ByteArray) (o : Int) (l : List S52) (hc : Chain 0 l) (ho : offB o = true) (hl : l.length ≤ 16) (loc : Int) (hloc : -100000000 ≤ loc ∧ loc ≤ 100000000) (n : Nat) : ∀ (x : Int) (acc : List Int), x + n = loc + 841 → n ≤ 1681 → acc.length + n ≤ 100000 →
    Ev (fun k => pairingref5_Instants.l0 k acc loc x s o l) (acc ++ (ints x n).filter (fun t => insB t && decide (t + offAt o l t = loc)), 0) := by
  induction n with
  | zero =>
    intro x acc hx hn ha
    refine Ev.step (f := fun _ => some (acc, 0)) (fun k => ?_) ?_
    · simp only [pairingref5_Instants.l0]
      rw [wrap_id (by omega) (by omega), if_neg (by omega)]
    · simp only [ints, List.filter_nil, List.append_nil]
      exact Ev.now _
  | succ n ih =>
    intro x acc hx hn ha
    have hg := offB_iff.1 (offAt_ok l 0 o hc ho x)
    have hw : wrap64 (x + 1) = x + 1 := wrap_id (by omega) (by omega)
    have hw2 : wrap64 (loc + 840) = loc + 840 := wrap_id (by omega) (by omega)
    have hw3 : wrap64 (x + offAt o l x) = x + offAt o l x := wrap_id (by omega) (by omega)
    simp only [ints, List.filter_cons]
    by_cases h1 : insB x = true
    · have hO := roffset s o l hl x
      by_cases h2 : x + offAt o l x = loc
      · rw [if_pos (by simp [h1, h2])]
        refine Ev.step (f := fun k => (pairingref5_Offset.f k s o l x).bind fun t => if wrap64 (x + t) = loc then pairingref5_Instants.l0 k (acc ++ [x]) loc (x + 1) s o l else pairingref5_Instants.l0 k acc loc (x + 1) s o l) (fun k => ?_) ?_
        · simp only [pairingref5_Instants.l0]
          rw [hw2, if_pos (by omega), ins_f]
          simp only [Option.bind_some, h1, if_true, hw]
          rw [if_pos (show acc.length < 17592186044416 by omega)]
        · refine Ev.bind hO ?_
          simp only [hw3, if_pos h2]
          have := ih (x + 1) (acc ++ [x]) (by omega) (by omega) (by simp; omega)
          rw [List.append_assoc, List.singleton_append] at this
          exact this
      · rw [if_neg (by simp [h2])]
        refine Ev.step (f := fun k => (pairingref5_Offset.f k s o l x).bind fun t => if wrap64 (x + t) = loc then pairingref5_Instants.l0 k (acc ++ [x]) loc (x + 1) s o l else pairingref5_Instants.l0 k acc loc (x + 1) s o l) (fun k => ?_) ?_
        · simp only [pairingref5_Instants.l0]
          rw [hw2, if_pos (by omega), ins_f]
          simp only [Option.bind_some, h1, if_true, hw]
          rw [if_pos (show acc.length < 17592186044416 by omega)]
        · refine Ev.bind hO ?_
          simp only [hw3, if_neg h2]
          exact ih (x + 1) acc (by omega) (by omega) (by omega)
    · rw [if_neg (by simp [h1])]
      refine Ev.step (f := fun k => pairingref5_Instants.l0 k acc loc (x + 1) s o l) (fun k => ?_) (ih (x + 1) acc (by omega) (by omega) (by omega))
      simp only [pairingref5_Instants.l0]
      rw [hw2, if_pos (by omega), ins_f]
      simp only [Option.bind_some]
      rw [if_neg h1, hw]

theorem rinstants (s : ByteArray) (o : Int) (l : List S52) (day clock : Int) : Ev (fun k => pairingref5_Instants.f k s o l day clock) (insts s o l day clock) := by
  unfold pairingref5_Instants.f
  refine Ev.bind (rvalidate s o l) ?_
  unfold insts
  by_cases h0 : valErr s o l = 0
  · simp only [if_pos h0]
    obtain ⟨ho, hl, hc⟩ := chain_of_valid h0
    have J0 : Ev (fun k => pairingref5_Instants.j0 k day clock true s o l) (([] : List Int), 5) := Ev.step (f := fun _ => some (([] : List Int), 5)) (fun k => by simp only [pairingref5_Instants.j0, if_true]) (Ev.now _)
    by_cases h1 : clock < 0
    · simp only [if_pos h1]
      rw [if_pos (by omega)]
      exact J0
    · simp only [if_neg h1]
      by_cases h2 : clock > 1439
      · rw [if_pos (show clock < 0 ∨ clock > 1439 from .inr h2)]
        simp only [h2, decide_true]
        exact J0
      · rw [if_neg (show ¬ (clock < 0 ∨ clock > 1439) by omega)]
        simp only [h2, decide_false]
        have J1 : Ev (fun k => pairingref5_Instants.j1 k day clock ([] : List Int) true s o l) (([] : List Int), 0) := Ev.step (f := fun _ => some (([] : List Int), 0)) (fun k => by simp only [pairingref5_Instants.j1, if_true]) (Ev.now _)
        by_cases h3 : day < -2
        · rw [if_pos (by omega)]
          exact Ev.step (f := fun k => pairingref5_Instants.j1 k day clock ([] : List Int) true s o l) (fun k => by simp only [pairingref5_Instants.j0]; rw [if_neg (by decide), if_pos h3]) J1
        · by_cases h4 : day > 36527
          · rw [if_pos (by omega)]
            exact Ev.step (f := fun k => pairingref5_Instants.j1 k day clock ([] : List Int) true s o l) (fun k => by simp only [pairingref5_Instants.j0]; rw [if_neg (by decide), if_neg h3]; simp only [h4, decide_true]) J1
          · have R : Ev (fun k => pairingref5_Instants.j0 k day clock false s o l) (instL o l (1440 * day + clock), 0) := by
              refine Ev.step (f := fun k => pairingref5_Instants.j1 k day clock ([] : List Int) false s o l) (fun k => by simp only [pairingref5_Instants.j0]; rw [if_neg (by decide), if_neg h3]; simp only [h4, decide_false]) ?_
              refine Ev.step (f := fun k => pairingref5_Instants.l0 k ([] : List Int) (1440 * day + clock) (1440 * day + clock - 840) s o l) (fun k => ?_) ?_
              · simp only [pairingref5_Instants.j1]
                rw [if_neg (by decide), wrap_id (n := 1440 * day) (by omega) (by omega), wrap_id (n := 1440 * day + clock) (by omega) (by omega), wrap_id (by omega) (by omega)]
              · have := rinst_loop s o l hc ho hl (1440 * day + clock) ⟨by omega, by omega⟩ 1681 (1440 * day + clock - 840) [] (by omega) (by omega) (by simp)
                rw [List.nil_append] at this
                exact this
            by_cases h5 : day < -1 ∨ day > 36525
            · rw [if_pos h5]
              have e : instL o l (1440 * day + clock) = [] := by
                rw [List.eq_nil_iff_forall_not_mem]
                intro x hx
                have hm := (mem_instL o l _ hc ho x).1 hx
                have := offB_iff.1 (offAt_ok l 0 o hc ho x)
                omega
              rw [e] at R
              exact R
            · rw [if_neg h5]
              exact R
  · simp only [if_neg h0]; exact Ev.now _

theorem same_loop (a : List Int) (ha : a.length ≤ 100000) (d : Nat) : ∀ i : Nat, i + d = a.length → Ev (fun k => pairinglaw7_same.l0 k a a (i : Int)) true := by
  induction d with
  | zero =>
    intro i hi
    refine Ev.step (f := fun _ => some true) (fun k => ?_) (Ev.now _)
    simp only [pairinglaw7_same.l0]
    rw [if_neg (by omega)]
  | succ d ih =>
    intro i hi
    have hw : wrap64 ((i : Int) + 1) = ((i + 1 : Nat) : Int) := by rw [wrap_id (by omega) (by omega)]; omega
    refine Ev.step (f := fun k => pairinglaw7_same.l0 k a a ((i + 1 : Nat) : Int)) (fun k => ?_) (ih (i + 1) (by omega))
    simp only [pairinglaw7_same.l0]
    rw [if_pos (by omega), if_pos (by omega), if_pos (by omega), if_pos trivial, hw]
theorem same_self (a : List Int) (ha : a.length ≤ 100000) : Ev (fun k => pairinglaw7_same.f k a a) true := by
  unfold pairinglaw7_same.f
  simp only [if_true]
  exact same_loop a ha a.length 0 (by omega)
theorem insts_len (s : ByteArray) (o : Int) (l : List S52) (day clock : Int) : (insts s o l day clock).1.length ≤ 1681 := by
  unfold insts
  have := instL_len o l (1440 * day + clock)
  split
  · split
    · simp
    · split
      · simp
      · exact this
  · simp
theorem zoneInstants_true (s : ByteArray) (o : Int) (l : List S52) (day clock : Int) : Ev (fun k => pairinglaw7_ZoneInstants.f k s o l day clock) true := by
  unfold pairinglaw7_ZoneInstants.f
  by_cases h : (l.length : Int) > 40
  · simp only [if_pos h]
    exact Ev.bind awake_true (Ev.now _)
  · simp only [if_neg h]
    refine Ev.bind (instants s o l day clock) (Ev.bind (rinstants s o l day clock) ?_)
    simp only [if_true]
    refine Ev.bind (same_self _ (by have := insts_len s o l day clock; omega)) ?_
    simp only [if_true]
    exact Ev.bind awake_true (Ev.now _)
end Go.Proofs.Ytbgojnjpkflofaa.Zp
