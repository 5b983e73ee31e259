/- Plain laws on zones: the bands of a span are the maximal runs of its minutes whose clock times are in the band. No condition but those in each theorem. -/
import Derived.Test.YtbgojnjpkflofaaZpH
import Derived.Test.YtbgojnjpkflofaaPx9
namespace Go.Proofs.Ytbgojnjpkflofaa.Zp
open Go.RowKit Go.Proofs.YtbgojnjpkflofaaW.PrintWords Go.Proofs.YtbgojnjpkflofaaW.PrintLast Go.Proofs.YtbgojnjpkflofaaW.PrintMore
open Go.Proofs.Ytbgojnjpkflofaa.P

theorem ints_add (m n : Nat) : ∀ x : Int, ints x (m + n) = ints x m ++ ints (x + m) n := by
  induction m with
  | zero => intro x; simp [ints]
  | succ m ih =>
    intro x
    rw [show m + 1 + n = (m + n) + 1 from by omega]
    simp only [ints, List.cons_append, ih]
    rw [show x + 1 + (m : Int) = x + ((m + 1 : Nat) : Int) from by omega]
theorem filter_none {l : List Int} {p : Int → Bool} (h : ∀ x ∈ l, p x = false) : l.filter p = [] := by
  rw [List.filter_eq_nil_iff]
  intro x hx
  rw [h x hx]
  decide
theorem filter_all {l : List Int} {p : Int → Bool} (h : ∀ x ∈ l, p x = true) : l.filter p = l := by
  rw [List.filter_eq_self]
  exact h
/-- A stretch behind a list of stretches: it joins the last one, or stands by itself. -/
def pushIv (out : List S35) (a b : Int) : List S35 :=
  match out.getLast? with
  | none => [⟨a, b⟩]
  | some q => if q.f1 = a then out.dropLast ++ [⟨q.f0, b⟩] else out ++ [⟨a, b⟩]
theorem pushIv_nil (a b : Int) : pushIv [] a b = [⟨a, b⟩] := rfl
theorem pushIv_snoc (l : List S35) (q : S35) (a b : Int) : pushIv (l ++ [q]) a b = if q.f1 = a then l ++ [⟨q.f0, b⟩] else l ++ [q] ++ [⟨a, b⟩] := by
  unfold pushIv
  simp
def push1 (out : List S35) (x : Int) : List S35 := pushIv out x (x + 1)
theorem snoc_cases {α : Type} (l : List α) : l = [] ∨ ∃ i q, l = i ++ [q] := by
  rcases List.eq_nil_or_concat l with h | ⟨i, q, h⟩
  · exact .inl h
  · exact .inr ⟨i, q, by simpa using h⟩
theorem fold_ints (n : Nat) : ∀ (out : List S35) (a : Int), (ints a (n + 1)).foldl push1 out = pushIv out a (a + (n + 1 : Nat)) := by
  induction n with
  | zero => intro out a; simp [ints, push1]
  | succ n ih =>
    intro out a
    rw [ints_add (n + 1) 1 a, List.foldl_append, ih]
    simp only [ints, List.foldl_cons, List.foldl_nil, push1]
    have e : a + ((n + 1 : Nat) : Int) + 1 = a + ((n + 1 + 1 : Nat) : Int) := by omega
    rcases snoc_cases out with rfl | ⟨i, q, rfl⟩
    · rw [pushIv_nil, pushIv_nil, show ([(⟨a, a + ((n + 1 : Nat) : Int)⟩ : S35)]) = [] ++ [⟨a, a + ((n + 1 : Nat) : Int)⟩] from rfl, pushIv_snoc, if_pos rfl, e]
      rfl
    · rw [pushIv_snoc, pushIv_snoc]
      by_cases h : q.f1 = a
      · rw [if_pos h, if_pos h, pushIv_snoc, if_pos rfl, e]
      · rw [if_neg h, if_neg h, pushIv_snoc, if_pos rfl, e]
theorem fold_iv (out : List S35) {a b : Int} (h : a < b) : (ints a (b - a).toNat).foldl push1 out = pushIv out a b := by
  have := fold_ints ((b - a).toNat - 1) out a
  rw [show (b - a).toNat - 1 + 1 = (b - a).toNat from by omega, show a + (((b - a).toNat : Nat) : Int) = b from by omega] at this
  exact this
/-- The runs of the minutes from A up to t that p takes. -/
def runs (p : Int → Bool) (A t : Int) : List S35 := ((ints A (t - A).toNat).filter p).foldl push1 []
theorem runs_self (p : Int → Bool) (A : Int) : runs p A A = [] := by unfold runs; rw [show (A - A).toNat = 0 from by omega]; rfl
theorem runs_split (p : Int → Bool) {A c d : Int} (h0 : A ≤ c) (h1 : c ≤ d) : runs p A d = ((ints c (d - c).toNat).filter p).foldl push1 (runs p A c) := by
  unfold runs
  rw [show (d - A).toNat = (c - A).toNat + (d - c).toNat from by omega, ints_add, List.filter_append, List.foldl_append, show A + (((c - A).toNat : Nat) : Int) = c from by omega]
/-- Nothing is taken between c and d. -/
theorem runs_skip (p : Int → Bool) {A c d : Int} (h0 : A ≤ c) (h1 : c ≤ d) (hp : ∀ x, c ≤ x → x < d → p x = false) : runs p A d = runs p A c := by
  rw [runs_split p h0 h1, filter_none (fun x hx => ?_)]
  · rfl
  · have := (mem_ints _ _ _).1 hx
    exact hp x (by omega) (by omega)
/-- All is taken between a and b. -/
theorem runs_take (p : Int → Bool) {A a b : Int} (h0 : A ≤ a) (h1 : a < b) (hp : ∀ x, a ≤ x → x < b → p x = true) : runs p A b = pushIv (runs p A a) a b := by
  rw [runs_split p h0 (by omega), filter_all (fun x hx => ?_), fold_iv _ h1]
  have := (mem_ints _ _ _).1 hx
  exact hp x (by omega) (by omega)
theorem pushIv_len (out : List S35) (a b : Int) : (pushIv out a b).length ≤ out.length + 1 := by
  rcases snoc_cases out with rfl | ⟨i, q, rfl⟩
  · simp [pushIv_nil]
  · rw [pushIv_snoc]; split <;> simp
theorem fold_len (l : List Int) : ∀ out : List S35, (l.foldl push1 out).length ≤ out.length + l.length := by
  induction l with
  | nil => intro out; simp
  | cons x r ih =>
    intro out
    have h1 := ih (push1 out x)
    have h2 := pushIv_len out x (x + 1)
    simp only [List.foldl_cons, List.length_cons]
    unfold push1 at h1 ⊢
    omega
theorem runs_len (p : Int → Bool) (A t : Int) : (runs p A t).length ≤ (t - A).toNat := by
  unfold runs
  have h1 := fold_len ((ints A (t - A).toNat).filter p) []
  have h2 := List.length_filter_le p (ints A (t - A).toNat)
  rw [len_ints] at h2
  simp at h1
  omega
/-! ### the code's own step -/
theorem rd35_last (i : List S35) (q : S35) : rd_T35 (i ++ [q]) (((i ++ [q]).length : Int) - 1) = q := by
  unfold rd_T35
  rw [List.length_append, List.length_singleton, show (((i.length + 1 : Nat) : Int) - 1).toNat = i.length from by omega]
  simp
theorem set_last (i : List S35) (q z : S35) : (i ++ [q]).set (((i ++ [q]).length : Int) - 1).toNat z = i ++ [z] := by
  rw [List.length_append, List.length_singleton, show (((i.length + 1 : Nat) : Int) - 1).toNat = i.length from by omega]
  simp
/-- The rest of a round, once the stretch [a, b) is known: what stands behind is F at the list that has come about. -/
theorem step_push (out : List S35) (a b : Int) (hl : out.length < 8796093022208) (F : List S35 → Option (List S35)) :
    (if (wrap64 ((out.length : Int) - 1)) ≥ 0 then (if 0 ≤ (wrap64 ((out.length : Int) - 1)) then (if (wrap64 ((out.length : Int) - 1)) < (out.length : Int) then (if ((rd_T35 out (wrap64 ((out.length : Int) - 1))).f1) = a then (F (out.set ((wrap64 ((out.length : Int) - 1)) : Int).toNat (⟨(rd_T35 out (wrap64 ((out.length : Int) - 1))).f0, b⟩ : S35))) else (if out.length < 8796093022208 then (F (out ++ [(⟨a, b⟩ : S35)])) else (none))) else (none)) else (none)) else (if out.length < 8796093022208 then (F (out ++ [(⟨a, b⟩ : S35)])) else (none))) = F (pushIv out a b) := by
  rw [wrap_id (by omega) (by omega)]
  rcases snoc_cases out with rfl | ⟨i, q, rfl⟩
  · rw [if_neg (by simp), if_pos hl, pushIv_nil]
    rfl
  · have hp : (0 : Int) ≤ ((i ++ [q]).length : Int) - 1 := by simp
    rw [if_pos hp, if_pos hp, if_pos (by omega), rd35_last, set_last, pushIv_snoc]
    by_cases h : q.f1 = a
    · rw [if_pos h, if_pos h]
    · rw [if_neg h, if_neg h, if_pos hl]
theorem bands_l1_step (k : Nat) (fr : Int) (out : List S35) (n t : Int) (L : List S54) (len i f0 f1 o : Int) (h1 : t < f1) (hb : mx t f0 < mn (wrap64 (t + n)) f1) (hl : out.length < 8796093022208) :
    zone_bands.l1 (k + 1) fr out n t L len i f0 f1 o = zone_bands.l1 k fr (pushIv out (mx t f0) (mn (wrap64 (t + n)) f1)) n (wrap64 (t + 1440)) L len i f0 f1 o := by
  rw [← step_push out (mx t f0) (mn (wrap64 (t + n)) f1) hl (fun z => zone_bands.l1 k fr z n (wrap64 (t + 1440)) L len i f0 f1 o)]
  simp only [zone_bands.l1]
  rw [if_pos h1, if_neg (by omega)]
theorem bands_l1_skip (k : Nat) (fr : Int) (out : List S35) (n t : Int) (L : List S54) (len i f0 f1 o : Int) (h1 : t < f1) (hb : ¬ mx t f0 < mn (wrap64 (t + n)) f1) :
    zone_bands.l1 (k + 1) fr out n t L len i f0 f1 o = zone_bands.l1 k fr out n (wrap64 (t + 1440)) L len i f0 f1 o := by
  simp only [zone_bands.l1]
  rw [if_pos h1, if_pos (by omega)]
theorem bands_l1_end (k : Nat) (fr : Int) (out : List S35) (n t : Int) (L : List S54) (len i f0 f1 o : Int) (h1 : ¬ t < f1) :
    zone_bands.l1 (k + 1) fr out n t L len i f0 f1 o = zone_bands.l0 k fr out n L len (wrap64 (i + 1)) := by
  simp only [zone_bands.l1]
  rw [if_neg h1]
/-! ### the band, minute by minute -/
/-- Is the minute x, of local number x + g x, in the band of n minutes from fr on? -/
def inBd (fr n : Int) (g : Int → Int) (x : Int) : Bool := decide ((x + g x - fr) % 1440 < n)
/-- One round: the stretch of the band that begins at t. -/
theorem runs_round (p : Int → Bool) (A f0 f1 t n : Int) (hA : A ≤ f0) (h01 : f0 < f1) (ht0 : f0 - 1440 < t) (ht1 : t < f1) (hn : 0 < n) (hn2 : n < 1440)
    (hp : ∀ x, f0 ≤ x → x < f1 → t ≤ x → x < t + 1440 → p x = decide (x - t < n)) :
    runs p A (mn (t + 1440) f1) = if mx t f0 < mn (t + n) f1 then pushIv (runs p A (mx t f0)) (mx t f0) (mn (t + n) f1) else runs p A (mx t f0) := by
  have a1 : t ≤ mx t f0 ∧ f0 ≤ mx t f0 ∧ (mx t f0 = t ∨ mx t f0 = f0) := by unfold mx; split <;> omega
  have a2 : mn (t + n) f1 ≤ t + n ∧ mn (t + n) f1 ≤ f1 ∧ (mn (t + n) f1 = t + n ∨ mn (t + n) f1 = f1) := by unfold mn; split <;> omega
  have a3 : mn (t + 1440) f1 ≤ t + 1440 ∧ mn (t + 1440) f1 ≤ f1 ∧ (mn (t + 1440) f1 = t + 1440 ∨ mn (t + 1440) f1 = f1) := by unfold mn; split <;> omega
  generalize mx t f0 = a at *
  generalize mn (t + n) f1 = b at *
  generalize mn (t + 1440) f1 = c at *
  by_cases h : a < b
  · rw [if_pos h, ← runs_take p (by omega) h (fun x hx hx' => by rw [hp x (by omega) (by omega) (by omega) (by omega)]; exact decide_eq_true (by omega))]
    exact runs_skip p (by omega) (by omega) (fun x hx hx' => by rw [hp x (by omega) (by omega) (by omega) (by omega)]; exact decide_eq_false (by omega))
  · rw [if_neg h]
    exact runs_skip p (by omega) (by omega) (fun x hx hx' => by rw [hp x (by omega) (by omega) (by omega) (by omega)]; exact decide_eq_false (by omega))
theorem bands_inner (fr n : Int) (hn : 0 < n) (hn2 : n < 1440) (L : List S54) (len i : Int) (p : Int → Bool) (A f0 f1 o : Int) (hA : A ≤ f0) (hA0 : 0 ≤ A) (h01 : f0 < f1) (hf1 : f1 ≤ 52596000)
    (t0 : Int) (hp : ∀ x, f0 ≤ x → x < f1 → p x = decide ((x - t0) % 1440 < n)) (r : List S35)
    (next : Ev (fun k => zone_bands.l0 k fr (runs p A f1) n L len (wrap64 (i + 1))) r) (d : Nat) : ∀ j : Int, f0 - 1440 < t0 + 1440 * j → f1 - (t0 + 1440 * j) ≤ 1440 * d →
    Ev (fun k => zone_bands.l1 k fr (runs p A (mn (mx (t0 + 1440 * j) f0) f1)) n (t0 + 1440 * j) L len i f0 f1 o) r := by
  induction d with
  | zero =>
    intro j h0 h1
    have e : mn (mx (t0 + 1440 * j) f0) f1 = f1 := by unfold mn mx; (repeat' split) <;> omega
    rw [e]
    exact Ev.step (fun k => bands_l1_end k _ _ _ _ _ _ _ _ _ _ (by omega)) next
  | succ d ih =>
    intro j h0 h1
    by_cases h2 : t0 + 1440 * j < f1
    · have IH := ih (j + 1) (by omega) (by omega)
      have ej : t0 + 1440 * (j + 1) = t0 + 1440 * j + 1440 := by omega
      rw [ej] at IH
      generalize ht : t0 + 1440 * j = t at *
      have e1 : mn (mx t f0) f1 = mx t f0 := by unfold mn mx; (repeat' split) <;> omega
      have e2 : mn (mx (t + 1440) f0) f1 = mn (t + 1440) f1 := by unfold mn mx; (repeat' split) <;> omega
      have w1 : wrap64 (t + n) = t + n := wrap_id (by omega) (by omega)
      have w2 : wrap64 (t + 1440) = t + 1440 := wrap_id (by omega) (by omega)
      rw [e1]
      rw [e2, runs_round p A f0 f1 t n hA h01 h0 h2 hn hn2 (fun x a b c d => by
        rw [hp x a b]
        have : (x - t0) % 1440 = x - t := by omega
        rw [this])] at IH
      have hlen : (runs p A (mx t f0)).length < 8796093022208 := by
        have h3 := runs_len p A (mx t f0)
        have : mx t f0 ≤ 52596000 := by unfold mx; split <;> omega
        omega
      by_cases hb : mx t f0 < mn (t + n) f1
      · rw [if_pos hb] at IH
        refine Ev.step (fun k => ?_) IH
        rw [bands_l1_step k fr _ n t L len i f0 f1 o h2 (by rw [w1]; exact hb) hlen, w1, w2]
      · rw [if_neg hb] at IH
        refine Ev.step (fun k => ?_) IH
        rw [bands_l1_skip k fr _ n t L len i f0 f1 o h2 (by rw [w1]; exact hb), w2]
    · have e : mn (mx (t0 + 1440 * j) f0) f1 = f1 := by unfold mn mx; (repeat' split) <;> omega
      rw [e]
      exact Ev.step (fun k => bands_l1_end k _ _ _ _ _ _ _ _ _ _ (by omega)) next
theorem bands_outer (fr n : Int) (hfr : 0 ≤ fr ∧ fr < 1440) (hn : 0 < n) (hn2 : n < 1440) (g : Int → Int) (A B : Int) (hA0 : 0 ≤ A) (hB : B ≤ 52596000) (L : List S54) (hS : Small L) (hL : L.length ≤ 100) (d : Nat) :
    ∀ (i : Nat) (c : Int), i + d = L.length → A ≤ c → c ≤ B → Part g c B (L.drop i) →
    Ev (fun k => zone_bands.l0 k fr (runs (inBd fr n g) A c) n L (L.length : Int) (i : Int)) (runs (inBd fr n g) A B) := by
  induction d with
  | zero =>
    intro i c hi hc hcB P
    rw [List.drop_eq_nil_of_le (by omega)] at P
    have e : c = B := by have : B ≤ c := P; omega
    subst e
    refine Ev.step (f := fun _ => some (runs (inBd fr n g) A c)) (fun k => ?_) (Ev.now _)
    simp only [zone_bands.l0]
    rw [if_neg (by omega)]
  | succ d ih =>
    intro i c hi hc hcB P
    have hw : wrap64 ((i : Int) + 1) = ((i + 1 : Nat) : Int) := by rw [wrap_id (by omega) (by omega)]; omega
    have hs := hS _ (rd54_mem L i (by omega))
    rw [drop54 L i (by omega)] at P
    obtain ⟨p1, p2, p3, p4, p5⟩ := P
    generalize hsd : rd_T54 L (i : Int) = s at *
    subst p1
    have IH := ih (i + 1) s.f1 (by omega) (by omega) p3 p5
    have e1 : wrap64 (wrap64 (s.f0 + s.f2) - fr) = s.f0 + s.f2 - fr := by
      rw [wrap_id (n := s.f0 + s.f2) (by omega) (by omega), wrap_id (by omega) (by omega)]
    have hm : 0 ≤ (s.f0 + s.f2 - fr) % 1440 ∧ (s.f0 + s.f2 - fr) % 1440 < 1440 := by omega
    have e2 : wrap64 (s.f0 - (s.f0 + s.f2 - fr) % 1440) = s.f0 - (s.f0 + s.f2 - fr) % 1440 := wrap_id (by omega) (by omega)
    have I := bands_inner fr n hn hn2 L (L.length : Int) (i : Int) (inBd fr n g) A s.f0 s.f1 s.f2 hc hA0 p2 (by omega) (s.f0 - (s.f0 + s.f2 - fr) % 1440)
      (fun x a b => by
        unfold inBd
        rw [p4 x a b]
        congr 2
        omega) _ (by rw [hw]; exact IH) ((s.f1 - s.f0).toNat / 1440 + 2) 0 (by omega) (by omega)
    have e3 : mn (mx (s.f0 - (s.f0 + s.f2 - fr) % 1440 + 1440 * 0) s.f0) s.f1 = s.f0 := by unfold mn mx; (repeat' split) <;> omega
    rw [e3] at I
    simp only [Int.mul_zero, Int.add_zero] at I
    refine Ev.step (fun k => ?_) I
    simp only [zone_bands.l0]
    rw [if_pos (by omega), if_pos (by omega), if_pos (by omega), hsd, e1, split_f (by omega) (by omega)]
    simp only [Option.bind_some]
    rw [e2]
theorem width_f {a b : Int} (ha : 0 ≤ a ∧ a < 1440) (hb : 0 ≤ b ∧ b < 1440) : zone_width.f a b = some ((b - a + 1440) % 1440) := by
  unfold zone_width.f
  rw [wrap_id (n := b - a) (by omega) (by omega), wrap_id (by omega) (by omega), Int.tmod_eq_emod_of_nonneg (by omega)]
/-- The band from a to b, by its length. -/
def wid (a b : Int) : Int := (b - a + 1440) % 1440
theorem bands_f (s : ByteArray) (o : Int) (l : List S52) (x y a b : Int) (hv : valErr s o l = 0) (hs : spB x y = true) (ha : 0 ≤ a ∧ a < 1440) (hb : 0 ≤ b ∧ b < 1440) :
    Ev (fun k => zone_bands.f k s o l x y a b) (runs (inBd a (wid a b) (offAt o l)) x y) := by
  obtain ⟨ho, hl, hc⟩ := chain_of_valid hv
  have hsp := spB_iff.1 hs
  unfold zone_bands.f
  simp only [width_f ha hb, Option.bind_some]
  by_cases h0 : (b - a + 1440) % 1440 = 0
  · simp only [if_pos h0]
    have e : runs (inBd a (wid a b) (offAt o l)) x y = [] := by
      rw [runs_skip (A := x) (c := x) (d := y) _ (Int.le_refl _) hsp.2.1 (fun z _ _ => by
        unfold inBd wid
        rw [h0]
        exact decide_eq_false (by omega)), runs_self]
    rw [e]
    exact Ev.now _
  · simp only [if_neg h0]
    unfold zone_segments.f
    simp only [if_pos (show l.length ≤ 90 by omega), Option.bind_some]
    have P := segs_part x y l 0 o hc (by omega)
    rw [show mx 0 x = x from by unfold mx; split <;> omega, show mn 52596000 y = y from by unfold mn; split <;> omega] at P
    have R := bands_outer a (wid a b) ha (by unfold wid; omega) (by unfold wid; omega) (offAt o l) x y hsp.1 hsp.2.2 (segsFrom x y 0 o l) (segs_small x y o l hc ho (by omega) (by omega)) (by have := segs_len x y l 0 o; omega) (segsFrom x y 0 o l).length 0 x (by omega) (Int.le_refl _) hsp.2.1 (by rw [List.drop_zero]; exact P)
    rw [runs_self] at R
    exact R
/-! ### the runs are proper stretches -/
def Wf35 (A t : Int) (out : List S35) : Prop := ∀ q ∈ out, A ≤ q.f0 ∧ q.f0 < q.f1 ∧ q.f1 ≤ t
theorem wf_push {A t x : Int} {out : List S35} (h : Wf35 A t out) (hA : A ≤ x) (ht : t ≤ x) : Wf35 A (x + 1) (push1 out x) := by
  unfold push1
  rcases snoc_cases out with rfl | ⟨i, q, rfl⟩
  · rw [pushIv_nil]
    intro z hz
    obtain rfl : z = ⟨x, x + 1⟩ := by simpa using hz
    exact ⟨hA, by show x < x + 1; omega, Int.le_refl _⟩
  · have hq := h q (by simp)
    rw [pushIv_snoc]
    by_cases e : q.f1 = x
    · rw [if_pos e]
      intro z hz
      rcases List.mem_append.1 hz with hz | hz
      · have := h z (by simp [hz]); omega
      · obtain rfl : z = ⟨q.f0, x + 1⟩ := by simpa using hz
        exact ⟨hq.1, by show q.f0 < x + 1; omega, Int.le_refl _⟩
    · rw [if_neg e]
      intro z hz
      rcases List.mem_append.1 hz with hz | hz
      · have := h z hz; omega
      · obtain rfl : z = ⟨x, x + 1⟩ := by simpa using hz
        exact ⟨hA, by show x < x + 1; omega, Int.le_refl _⟩
theorem runs_next (p : Int → Bool) {A t : Int} (h : A ≤ t) : runs p A (t + 1) = if p t = true then push1 (runs p A t) t else runs p A t := by
  by_cases hp : p t = true
  · rw [if_pos hp]
    exact runs_take p h (by omega) (fun x a b => by rw [show x = t from by omega]; exact hp)
  · rw [if_neg hp]
    exact runs_skip p h (by omega) (fun x a b => by rw [show x = t from by omega]; simpa using hp)
theorem wf_runs (p : Int → Bool) (A : Int) (n : Nat) : Wf35 A (A + n) (runs p A (A + n)) := by
  induction n with
  | zero => rw [show A + ((0 : Nat) : Int) = A from by omega, runs_self]; intro q hq; cases hq
  | succ n ih =>
    rw [show A + ((n + 1 : Nat) : Int) = A + n + 1 from by omega, runs_next p (by omega)]
    split
    · exact wf_push ih (by omega) (Int.le_refl _)
    · intro q hq
      have := ih q hq
      omega
theorem drop35 (l : List S35) (i : Nat) (h : i < l.length) : l.drop i = rd_T35 l (i : Int) :: l.drop (i + 1) := by
  rw [List.drop_eq_getElem_cons h]
  unfold rd_T35
  rw [show ((i : Int)).toNat = i from by omega, List.getD_eq_getElem?_getD, List.getElem?_eq_getElem h]
  rfl
theorem rd35_mem (l : List S35) (i : Nat) (h : i < l.length) : rd_T35 l (i : Int) ∈ l := by
  unfold rd_T35
  rw [show ((i : Int)).toNat = i from by omega, List.getD_eq_getElem?_getD, List.getElem?_eq_getElem h]
  exact List.getElem_mem h
/-- The error of BandMinutes and Nights. -/
def argB (x y a b : Int) : Bool := spB x y && (decide (0 ≤ a) && (decide (a < 1440) && (decide (0 ≤ b) && decide (b < 1440))))
theorem argB_iff {x y a b : Int} : argB x y a b = true ↔ spB x y = true ∧ (0 ≤ a ∧ a < 1440) ∧ 0 ≤ b ∧ b < 1440 := by
  unfold argB
  simp only [Bool.and_eq_true, decide_eq_true_eq]
  exact ⟨fun h => ⟨h.1, ⟨h.2.1, h.2.2.1⟩, h.2.2.2⟩, fun h => ⟨h.1, h.2.1.1, h.2.1.2, h.2.2⟩⟩
theorem argB_no {x y a b : Int} (h : ¬ (spB x y = true ∧ (0 ≤ a ∧ a < 1440) ∧ 0 ≤ b ∧ b < 1440)) : argB x y a b = false := by
  cases e : argB x y a b with
  | false => rfl
  | true => exact absurd (argB_iff.1 e) h
def bandErr (s : ByteArray) (o : Int) (l : List S52) (x y a b : Int) : Int :=
  if valErr s o l = 0 then (if argB x y a b = true then 0 else 5) else valErr s o l
theorem bandCheck (s : ByteArray) (o : Int) (l : List S52) (x y a b : Int) : Ev (fun k => zone_bandCheck.f k s o l x y a b) (bandErr s o l x y a b) := by
  unfold zone_bandCheck.f
  refine Ev.bind (validate s o l) ?_
  unfold bandErr
  simp only [span_f, Option.bind_some]
  by_cases h0 : valErr s o l = 0
  · simp only [if_pos h0]
    by_cases h1 : spB x y = true
    · simp only [if_pos h1]
      by_cases h2 : a < 0
      · rw [argB_no (by omega)]; simp only [if_pos h2]; exact Ev.now _
      · simp only [if_neg h2]
        by_cases h3 : a ≥ 1440
        · rw [argB_no (by omega)]; simp only [if_pos h3]; exact Ev.now _
        · simp only [if_neg h3]
          by_cases h4 : b < 0
          · rw [argB_no (by omega)]; simp only [if_pos h4]; exact Ev.now _
          · simp only [if_neg h4]
            by_cases h5 : b ≥ 1440
            · rw [argB_no (by omega)]; simp only [if_pos h5]; exact Ev.now _
            · rw [argB_iff.2 ⟨h1, by omega, by omega⟩]; simp only [if_neg h5]; exact Ev.now _
    · rw [argB_no (fun h => h1 h.1)]; simp only [if_neg h1]; exact Ev.now _
  · simp only [if_neg h0]; exact Ev.now _
theorem bandErr_iff {s : ByteArray} {o : Int} {l : List S52} {x y a b : Int} : bandErr s o l x y a b = 0 ↔ valErr s o l = 0 ∧ spB x y = true ∧ (0 ≤ a ∧ a < 1440) ∧ 0 ≤ b ∧ b < 1440 := by
  unfold bandErr
  by_cases h0 : valErr s o l = 0
  · rw [if_pos h0]
    cases h1 : argB x y a b with
    | true => exact ⟨fun _ => ⟨h0, argB_iff.1 h1⟩, fun _ => rfl⟩
    | false => exact ⟨fun h => by simp at h, fun h => by rw [argB_iff.2 h.2] at h1; cases h1⟩
  · rw [if_neg h0]; exact ⟨fun h => absurd h h0, fun h => absurd h.1 h0⟩
end Go.Proofs.Ytbgojnjpkflofaa.Zp
