/- Plain laws on zones: what Validate, OffsetAt, LocalMinute and LocalTime come to; the segments part the span; the check 'awake' holds. No condition but those in each theorem. -/
import Derived.Test.YtbgojnjpkflofaaPx1
namespace Go.Proofs.Ytbgojnjpkflofaa.Zp
open Go.RowKit Go.Proofs.YtbgojnjpkflofaaW.PrintWords Go.Proofs.YtbgojnjpkflofaaW.PrintLast Go.Proofs.YtbgojnjpkflofaaW.PrintMore
open Go.Proofs.Ytbgojnjpkflofaa.P

theorem wrap_id {n : Int} (h0 : -9223372036854775808 ≤ n) (h1 : n ≤ 9223372036854775807) : wrap64 n = n := by unfold wrap64; omega
/-! ### what Validate comes to -/
def offB (n : Int) : Bool := decide (-840 ≤ n) && decide (n ≤ 840)
theorem off_f (n : Int) : zone_offsetOK.f n = some (offB n) := by
  unfold zone_offsetOK.f offB
  by_cases h : n ≥ -840
  · rw [if_pos h]; simp [h]
  · rw [if_neg h]; simp only [ge_iff_le] at h; simp [h]
def insB (n : Int) : Bool := decide (0 ≤ n) && decide (n < 52596000)
/-- The error of the shifts behind one at p (none: the first). -/
def shErr : Option Int → List S52 → Int
  | _, [] => 0
  | p, x :: r => if (insB x.f0 && offB x.f1) = true then (if (match p with | none => false | some q => decide (x.f0 ≤ q)) = true then 8 else shErr (some x.f0) r) else 5
def valErr (s : ByteArray) (o : Int) (l : List S52) : Int := if nameB s = true then (if offB o = true then (if (l.length : Int) > 16 then 10 else shErr none l) else 5) else 1
def prevOf (l : List S52) (i : Nat) : Option Int := if i = 0 then none else some (rd_T52 l ((i : Int) - 1)).f0
theorem shErr_at (l : List S52) (i : Nat) (hi : i < l.length) : shErr (prevOf l i) (l.drop i) =
    if (insB (rd_T52 l (i : Int)).f0 && offB (rd_T52 l (i : Int)).f1) = true then (if i > 0 ∧ (rd_T52 l (i : Int)).f0 ≤ (rd_T52 l ((i : Int) - 1)).f0 then 8 else shErr (prevOf l (i + 1)) (l.drop (i + 1))) else 5 := by
  have e := drop_at l (i : Int) (by omega) (by omega)
  rw [show ((i : Int)).toNat = i from by omega, show ((i : Int) + 1).toNat = i + 1 from by omega] at e
  rw [e]
  have e2 : prevOf l (i + 1) = some (rd_T52 l (i : Int)).f0 := by
    unfold prevOf
    rw [if_neg (by omega), show ((i + 1 : Nat) : Int) - 1 = (i : Int) from by omega]
  rw [e2]
  simp only [shErr]
  unfold prevOf
  by_cases h0 : i = 0
  · subst h0; simp
  · rw [if_neg h0]
    have : i > 0 := by omega
    simp [this]
theorem validate_loop (s : ByteArray) (o : Int) (l : List S52) (hl : l.length ≤ 16) (d : Nat) : ∀ i : Nat, i + d = l.length → Ev (fun k => zone_Validate.l0 k l (l.length : Int) (i : Int) s o l) (shErr (prevOf l i) (l.drop i)) := by
  induction d with
  | zero =>
    intro i hi
    refine Ev.step (f := fun _ => some (shErr (prevOf l i) (l.drop i))) (fun k => ?_) (Ev.now _)
    simp only [zone_Validate.l0]
    rw [if_neg (by omega), List.drop_eq_nil_of_le (by omega)]
    simp [shErr]
  | succ d ih =>
    intro i hi
    have hw : wrap64 ((i : Int) + 1) = ((i + 1 : Nat) : Int) := by rw [wrap_id (by omega) (by omega)]; omega
    have hw1 : wrap64 ((i : Int) - 1) = (i : Int) - 1 := wrap_id (by omega) (by omega)
    have IH := ih (i + 1) (by omega)
    rw [shErr_at l i (by omega)]
    -- the join behind the tests
    have J : ∀ b : Bool, Ev (fun k => zone_Validate.j1 k (i : Int) l (l.length : Int) (i : Int) b s o l (rd_T52 l (i : Int)).f0 (rd_T52 l (i : Int)).f1) (if b = true then 5 else (if i > 0 ∧ (rd_T52 l (i : Int)).f0 ≤ (rd_T52 l ((i : Int) - 1)).f0 then 8 else shErr (prevOf l (i + 1)) (l.drop (i + 1)))) := by
      intro b
      cases b with
      | true =>
        refine Ev.step (f := fun _ => some 5) (fun k => ?_) (Ev.now _)
        simp [zone_Validate.j1]
      | false =>
        by_cases h0 : i > 0
        · by_cases h1 : (rd_T52 l (i : Int)).f0 ≤ (rd_T52 l ((i : Int) - 1)).f0
          · refine Ev.step (f := fun _ => some 8) (fun k => ?_) ?_
            · simp only [zone_Validate.j1]
              rw [if_neg (by decide), if_pos (by omega), hw1, if_pos (by omega), if_pos (by omega), if_pos h1]
            · simp only [h0, h1, and_self, if_true]
              exact Ev.now _
          · refine Ev.step (f := fun k => zone_Validate.l0 k l (l.length : Int) ((i + 1 : Nat) : Int) s o l) (fun k => ?_) ?_
            · simp only [zone_Validate.j1]
              rw [if_neg (by decide), if_pos (by omega), hw1, if_pos (by omega), if_pos (by omega), if_neg h1, hw]
            · simp only [h1, and_false, if_false]
              exact IH
        · refine Ev.step (f := fun k => zone_Validate.l0 k l (l.length : Int) ((i + 1 : Nat) : Int) s o l) (fun k => ?_) ?_
          · simp only [zone_Validate.j1]
            rw [if_neg (by decide), if_neg (by omega), hw]
          · simp only [h0, false_and, if_false]
            exact IH
    by_cases h1 : (rd_T52 l (i : Int)).f0 < 0
    · refine Ev.step (f := fun k => zone_Validate.j1 k (i : Int) l (l.length : Int) (i : Int) true s o l (rd_T52 l (i : Int)).f0 (rd_T52 l (i : Int)).f1) (fun k => ?_) ?_
      · simp only [zone_Validate.l0]
        rw [if_pos (by omega), if_pos (by omega), if_pos (by omega), if_pos h1]
      · have e : insB (rd_T52 l (i : Int)).f0 = false := by
          have : ¬ (0 ≤ (rd_T52 l (i : Int)).f0) := by omega
          simp [insB, this]
        rw [e]
        exact J true
    · by_cases h2 : (rd_T52 l (i : Int)).f0 ≥ 52596000
      · refine Ev.step (f := fun k => zone_Validate.j1 k (i : Int) l (l.length : Int) (i : Int) true s o l (rd_T52 l (i : Int)).f0 (rd_T52 l (i : Int)).f1) (fun k => ?_) ?_
        · simp only [zone_Validate.l0]
          rw [if_pos (by omega), if_pos (by omega), if_pos (by omega), if_neg h1, if_pos h2]
        · have e : insB (rd_T52 l (i : Int)).f0 = false := by
            have : ¬ ((rd_T52 l (i : Int)).f0 < 52596000) := by omega
            simp [insB, this]
          rw [e]
          exact J true
      · refine Ev.step (f := fun k => zone_Validate.j1 k (i : Int) l (l.length : Int) (i : Int) (!(offB (rd_T52 l (i : Int)).f1)) s o l (rd_T52 l (i : Int)).f0 (rd_T52 l (i : Int)).f1) (fun k => ?_) ?_
        · simp only [zone_Validate.l0]
          rw [if_pos (by omega), if_pos (by omega), if_pos (by omega), if_neg h1, if_neg h2, off_f]
          rfl
        · have e : insB (rd_T52 l (i : Int)).f0 = true := by
            have a1 : 0 ≤ (rd_T52 l (i : Int)).f0 := by omega
            have a2 : (rd_T52 l (i : Int)).f0 < 52596000 := by omega
            simp [insB, a1, a2]
          rw [e]
          have := J (!(offB (rd_T52 l (i : Int)).f1))
          cases ho : offB (rd_T52 l (i : Int)).f1 <;> rw [ho] at this <;> simpa using this
theorem validate (s : ByteArray) (o : Int) (l : List S52) : Ev (fun k => zone_Validate.f k s o l) (valErr s o l) := by
  unfold zone_Validate.f text_IsName.f valErr
  simp only [Option.bind_some, off_f]
  by_cases h1 : nameB s = true
  · simp only [if_pos h1]
    by_cases h2 : offB o = true
    · simp only [if_pos h2]
      by_cases h3 : (l.length : Int) > 16
      · simp only [if_pos h3]; exact Ev.now _
      · simp only [if_neg h3]
        exact validate_loop s o l (by omega) l.length 0 (by omega)
    · simp only [if_neg h2]; exact Ev.now _
  · simp only [if_neg h1]; exact Ev.now _
def offAt (o : Int) : List S52 → Int → Int
  | [], _ => o
  | x :: r, t => offAt (if x.f0 ≤ t then x.f1 else o) r t
/-- Ascending shifts from a on, each valid. -/
def Chain : Int → List S52 → Prop
  | _, [] => True
  | a, x :: r => a ≤ x.f0 ∧ x.f0 < 52596000 ∧ offB x.f1 = true ∧ Chain (x.f0 + 1) r
theorem Chain.lower {a b : Int} {l : List S52} (h : Chain b l) (hab : a ≤ b) : Chain a l := by
  cases l with
  | nil => trivial
  | cons x r => exact ⟨by have := h.1; omega, h.2⟩
theorem chain_of_err (l : List S52) : ∀ q : Int, -1 ≤ q → shErr (some q) l = 0 → Chain (q + 1) l := by
  induction l with
  | nil => intro _ _ _; trivial
  | cons x r ih =>
    intro q hq h
    simp only [shErr] at h
    by_cases h1 : (insB x.f0 && offB x.f1) = true
    · rw [if_pos h1] at h
      by_cases h2 : x.f0 ≤ q
      · simp [h2] at h
      · simp only [h2, decide_false] at h
        rw [if_neg (by decide)] at h
        simp only [insB, Bool.and_eq_true, decide_eq_true_eq] at h1
        exact ⟨by omega, h1.1.2, h1.2, ih x.f0 (by omega) h⟩
    · rw [if_neg h1] at h
      cases h
theorem chain_of_valid {s : ByteArray} {o : Int} {l : List S52} (h : valErr s o l = 0) : offB o = true ∧ l.length ≤ 16 ∧ Chain 0 l := by
  unfold valErr at h
  by_cases h1 : nameB s = true
  · rw [if_pos h1] at h
    by_cases h2 : offB o = true
    · rw [if_pos h2] at h
      by_cases h3 : (l.length : Int) > 16
      · rw [if_pos h3] at h; cases h
      · rw [if_neg h3] at h
        refine ⟨h2, by omega, ?_⟩
        cases l with
        | nil => trivial
        | cons x r =>
          refine chain_of_err (x :: r) (-1) (by omega) ?_
          simp only [shErr] at h ⊢
          by_cases h4 : (insB x.f0 && offB x.f1) = true
          · rw [if_pos h4] at h ⊢
            have h5 : ¬ x.f0 ≤ -1 := by simp only [insB, Bool.and_eq_true, decide_eq_true_eq] at h4; omega
            simpa [h5] using h
          · rw [if_neg h4] at h; cases h
    · rw [if_neg h2] at h; cases h
  · rw [if_neg h1] at h; cases h
theorem offAt_before {a : Int} {l : List S52} (h : Chain a l) (o t : Int) (ht : t < a) : offAt o l t = o := by
  induction l generalizing a with
  | nil => rfl
  | cons x r ih =>
    obtain ⟨h1, _, _, h4⟩ := h
    simp only [offAt]
    rw [if_neg (by omega)]
    exact ih h4 (by omega)
theorem offAt_ok (l : List S52) : ∀ (a o : Int), Chain a l → offB o = true → ∀ t, offB (offAt o l t) = true := by
  induction l with
  | nil => intro a o _ h t; exact h
  | cons x r ih =>
    intro a o h ho t
    obtain ⟨_, _, h3, h4⟩ := h
    simp only [offAt]
    exact ih _ _ h4 (by split <;> assumption) t
theorem offB_iff {n : Int} : offB n = true ↔ -840 ≤ n ∧ n ≤ 840 := by simp [offB]
/-- The list parts [A, B) into stretches on each of which g is the stretch's own number. -/
def Part (g : Int → Int) : Int → Int → List S54 → Prop
  | A, B, [] => B ≤ A
  | A, B, s :: r => s.f0 = A ∧ s.f0 < s.f1 ∧ s.f1 ≤ B ∧ (∀ x, s.f0 ≤ x → x < s.f1 → g x = s.f2) ∧ Part g s.f1 B r
theorem Part.congr {g g' : Int → Int} {l : List S54} : ∀ {A B : Int}, Part g A B l → (∀ x, A ≤ x → g x = g' x) → Part g' A B l := by
  induction l with
  | nil => intro A B h _; exact h
  | cons s r ih =>
    intro A B h hg
    obtain ⟨h1, h2, h3, h4, h5⟩ := h
    exact ⟨h1, h2, h3, fun x hx hx' => (hg x (by omega)).symm.trans (h4 x hx hx'), ih h5 (fun x hx => hg x (by omega))⟩
theorem Part.none {g : Int → Int} {l : List S54} {A B : Int} (h : Part g A B l) (hB : B ≤ A) : l = [] := by
  cases l with
  | nil => rfl
  | cons s r => obtain ⟨h1, h2, h3, _⟩ := h; omega
theorem segs_part (sf st : Int) (l : List S52) : ∀ (a o : Int), Chain a l → a ≤ 52596000 → Part (offAt o l) (mx a sf) (mn 52596000 st) (segsFrom sf st a o l) := by
  induction l with
  | nil =>
    intro a o _ ha
    simp only [segsFrom]
    unfold clipS
    by_cases h : mx a sf < mn 52596000 st
    · rw [if_pos h]
      exact ⟨rfl, h, Int.le_refl _, fun x _ _ => rfl, Int.le_refl _⟩
    · rw [if_neg h]
      exact Int.not_lt.1 h
  | cons x r ih =>
    intro a o h ha
    obtain ⟨h1, h2, h3, h4⟩ := h
    have IH := ih x.f0 x.f1 (h4.lower (by omega)) (by omega)
    have hg : ∀ t, x.f0 ≤ t → offAt o (x :: r) t = offAt x.f1 r t := fun t ht => by simp only [offAt]; rw [if_pos ht]
    have hge : mx x.f0 sf ≥ x.f0 := by unfold mx; split <;> omega
    have IH' : Part (offAt o (x :: r)) (mx x.f0 sf) (mn 52596000 st) (segsFrom sf st x.f0 x.f1 r) := IH.congr (fun t ht => (hg t (by omega)).symm)
    simp only [segsFrom]
    unfold clipS
    by_cases h : mx a sf < mn x.f0 st
    · rw [if_pos h]
      refine ⟨rfl, h, ?_, fun t ht ht' => ?_, ?_⟩
      · show mn x.f0 st ≤ mn 52596000 st
        unfold mn; split <;> split <;> omega
      · have : t < x.f0 := by
          have : mn x.f0 st ≤ x.f0 := by unfold mn; split <;> omega
          have h' : t < mn x.f0 st := ht'
          omega
        simp only [offAt]
        rw [if_neg (by omega)]
        exact offAt_before h4 o t (by omega)
      · show Part (offAt o (x :: r)) (mn x.f0 st) (mn 52596000 st) (segsFrom sf st x.f0 x.f1 r)
        by_cases hs : st < x.f0
        · have e1 : mn x.f0 st = st := by unfold mn; rw [if_pos hs]
          have e2 : mn 52596000 st = st := by unfold mn; rw [if_pos (by omega)]
          rw [IH'.none (by rw [e2]; omega), e1, e2]
          exact Int.le_refl _
        · have e1 : mn x.f0 st = x.f0 := by unfold mn; rw [if_neg hs]
          have e2 : mx x.f0 sf = x.f0 := by
            have : sf ≤ mx a sf := by unfold mx; split <;> omega
            unfold mx; rw [if_neg (by omega)]
          rw [e1]
          rwa [e2] at IH'
    · rw [if_neg h, List.nil_append]
      by_cases hs : mn 52596000 st ≤ mx a sf
      · rw [IH'.none (by
          have : mx a sf ≤ mx x.f0 sf := by unfold mx; split <;> split <;> omega
          omega)]
        exact hs
      · have e : mx x.f0 sf = mx a sf := by
          unfold mx mn at h hs
          unfold mx
          split <;> split <;> (repeat' split at h) <;> (repeat' split at hs) <;> omega
        rwa [e] at IH'
def offErr (s : ByteArray) (o : Int) (l : List S52) (t : Int) : Int := if valErr s o l = 0 then (if insB t = true then 0 else 5) else valErr s o l
theorem offsetAt (s : ByteArray) (o : Int) (l : List S52) (t : Int) : Ev (fun k => zone_OffsetAt.f k s o l t) (if offErr s o l t = 0 then offAt o l t else 0, offErr s o l t) := by
  unfold zone_OffsetAt.f
  refine Ev.bind (validate s o l) ?_
  unfold offErr
  by_cases h0 : valErr s o l = 0
  · simp only [if_pos h0]
    obtain ⟨ho, hl, hc⟩ := chain_of_valid h0
    by_cases h1 : t < 0
    · have e : insB t = false := by have : ¬ 0 ≤ t := by omega
                                    simp [insB, this]
      simp only [if_pos h1, e]
      exact Ev.now _
    · simp only [if_neg h1]
      by_cases h2 : t ≥ 52596000
      · have e : insB t = false := by have : ¬ t < 52596000 := by omega
                                      simp [insB, this]
        simp only [if_pos h2, e]
        exact Ev.now _
      · have e : insB t = true := by
          have a1 : 0 ≤ t := by omega
          have a2 : t < 52596000 := by omega
          simp [insB, a1, a2]
        simp only [if_neg h2, e]
        unfold zone_segments.f
        have hl' : l.length ≤ 90 := by omega
        rw [wrap_id (by omega) (by omega)]
        simp only [if_pos hl', Option.bind_some]
        have P := segs_part t (t + 1) l 0 o hc (by omega)
        rw [show mx 0 t = t from by unfold mx; split <;> omega, show mn 52596000 (t + 1) = t + 1 from by unfold mn; split <;> omega] at P
        cases hsg : segsFrom t (t + 1) 0 o l with
        | nil => rw [hsg] at P; exact absurd P (by show ¬ (t + 1 ≤ t); omega)
        | cons x r =>
          rw [hsg] at P
          obtain ⟨p1, p2, p3, p4, _⟩ := P
          have hp : 0 < (((x :: r).length : Nat) : Int) := by simp
          simp only [if_pos hp]
          have : (rd_T54 (x :: r) 0).f2 = offAt o l t := (p4 t (by omega) (by omega)).symm
          rw [this]
          exact Ev.now _
  · simp only [if_neg h0]
    exact Ev.now _
/-! ### local times -/
theorem split_f {m : Int} (h0 : -1000000000000000 ≤ m) (h1 : m ≤ 1000000000000000) : calendar_SplitMinute.f m = some (m / 1440, m % 1440) := by
  unfold calendar_SplitMinute.f
  by_cases hm : 0 ≤ m
  · rw [Int.tmod_eq_emod_of_nonneg hm, Int.tdiv_eq_ediv_of_nonneg hm, if_neg (by omega), wrap_id (by omega) (by omega)]
  · obtain ⟨n, rfl⟩ : ∃ n, m = -n := ⟨-m, by omega⟩
    rw [Int.neg_tmod, Int.neg_tdiv, Int.tmod_eq_emod_of_nonneg (by omega), Int.tdiv_eq_ediv_of_nonneg (by omega)]
    by_cases h2 : -(n % 1440) < 0
    · rw [if_pos h2, wrap_id (n := -(n / 1440)) (by omega) (by omega), wrap_id (by omega) (by omega), wrap_id (by omega) (by omega)]
      congr 2 <;> omega
    · rw [if_neg h2, wrap_id (by omega) (by omega)]
      congr 2 <;> omega
theorem off_bd {s : ByteArray} {o : Int} {l : List S52} {t : Int} (h : offErr s o l t = 0) : 0 ≤ t ∧ t < 52596000 ∧ -840 ≤ offAt o l t ∧ offAt o l t ≤ 840 := by
  unfold offErr at h
  by_cases h0 : valErr s o l = 0
  · rw [if_pos h0] at h
    obtain ⟨ho, hl, hc⟩ := chain_of_valid h0
    have := offB_iff.1 (offAt_ok l 0 o hc ho t)
    by_cases h1 : insB t = true
    · simp only [insB, Bool.and_eq_true, decide_eq_true_eq] at h1
      exact ⟨h1.1, h1.2, this.1, this.2⟩
    · rw [if_neg h1] at h; cases h
  · rw [if_neg h0] at h; exact absurd h h0
def locMin (s : ByteArray) (o : Int) (l : List S52) (t : Int) : Int := if offErr s o l t = 0 then t + offAt o l t else 0
theorem localMinute (s : ByteArray) (o : Int) (l : List S52) (t : Int) : Ev (fun k => zone_LocalMinute.f k s o l t) (locMin s o l t, offErr s o l t) := by
  unfold zone_LocalMinute.f
  refine Ev.bind (offsetAt s o l t) ?_
  unfold locMin
  by_cases h : offErr s o l t = 0
  · have := off_bd h
    simp only [if_pos h]
    rw [wrap_id (by omega) (by omega), h]
    exact Ev.now _
  · simp only [if_neg h]; exact Ev.now _
def locTime (s : ByteArray) (o : Int) (l : List S52) (t : Int) : Int × Int × Int := if offErr s o l t = 0 then ((t + offAt o l t) / 1440, (t + offAt o l t) % 1440, 0) else (0, 0, offErr s o l t)
theorem localTime (s : ByteArray) (o : Int) (l : List S52) (t : Int) : Ev (fun k => zone_LocalTime.f k s o l t) (locTime s o l t) := by
  unfold zone_LocalTime.f
  refine Ev.bind (localMinute s o l t) ?_
  unfold locTime
  by_cases h : offErr s o l t = 0
  · have := off_bd h
    simp only [if_pos h, locMin]
    rw [split_f (by omega) (by omega)]
    exact Ev.now _
  · simp only [if_neg h]; exact Ev.now _
theorem awake_true : Ev (fun k => pairinglaw7_awake.f k) true := by
  unfold pairinglaw7_awake.f
  refine Ev.bind (localTime _ _ _ _) ?_
  have e : locTime (⟨#[97]⟩ : ByteArray) 60 [] 60 = (0, 120, 0) := by decide +kernel
  rw [e]
  exact Ev.now _
def spB (a b : Int) : Bool := decide (0 ≤ a) && (decide (a ≤ b) && decide (b ≤ 52596000))
theorem span_f (a b : Int) : zone_spanOK.f a b = some (spB a b) := by
  unfold zone_spanOK.f spB
  by_cases h : a ≥ 0
  · rw [if_pos h]
    by_cases h2 : a ≤ b
    · rw [if_pos h2]; simp [h, h2]
    · rw [if_neg h2]; simp [h2]
  · rw [if_neg h]; simp only [ge_iff_le] at h; simp [h]
theorem spB_iff {a b : Int} : spB a b = true ↔ 0 ≤ a ∧ a ≤ b ∧ b ≤ 52596000 := by simp [spB]
theorem insB_iff {t : Int} : insB t = true ↔ 0 ≤ t ∧ t < 52596000 := by simp [insB]
end Go.Proofs.Ytbgojnjpkflofaa.Zp
