/- A region that leaves its order open: operation by operation. -/
import Derived.Test.YtgkdmkjfcmilgaaGreatDoorXw
set_option linter.unusedVariables false
set_option linter.unusedSimpArgs false
namespace Go.X
section
variable {P : Program} {ops : Array Oper} {G N base : Nat}
theorem mergeK_ok {γ : Type} {c' : T V} {r : γ} : ∀ {n a : Nat} {c : T V} {k : T V → R γ}, mergeK c' n a c k = .ok r → ∃ c2, k c2 = .ok r ∧ (∀ j, a ≤ j → j < a + n → c'.get j ≠ none) ∧
    ∀ j, c2.get j = if a ≤ j ∧ j < a + n then c'.get j else c.get j
  | 0, a, c, k, h => ⟨c, h, fun j h1 h2 => by omega, fun j => by rw [if_neg (by omega)]⟩
  | n + 1, a, c, k, h => by
    have h' : (oR (c'.get a) "merge" 14 fun v => c.setK a v fun c => num (Nat.succ a) fun a' => mergeK c' n a' c k) = .ok r := h
    obtain ⟨v, h1, h2⟩ := oR_ok.1 h'
    rw [T.setK_eq, num_eq] at h2
    obtain ⟨c2, h3, h4, h5⟩ := mergeK_ok h2
    refine ⟨c2, h3, fun j j1 j2 => ?_, fun j => ?_⟩
    · by_cases e : j = a
      · subst e; rw [h1]; simp
      · exact h4 j (by omega) (by omega)
    · rw [h5 j, T.get_set]
      by_cases e : a = j
      · subst e
        rw [if_neg (by omega), if_pos rfl, if_pos (by omega), h1]
      · by_cases e2 : a + 1 ≤ j ∧ j < a + 1 + n
        · rw [if_pos (show Nat.succ a ≤ j ∧ j < Nat.succ a + n from e2), if_pos (by omega)]
        · rw [if_neg (show ¬ (Nat.succ a ≤ j ∧ j < Nat.succ a + n) from e2), if_neg e, if_neg (by omega)]
theorem allWhole_true : ∀ {u : List Up}, allWhole u = true → ∀ e ∈ u, e.2.1 = none
  | [], _, e, he => by simp at he
  | x :: u, h, e, he => by
    have h' : Option.rec (motive := fun _ => Bool) (allWhole u) (fun _ => false) x.2.1 = true := h
    cases hx : x.2.1 with
    | some r => rw [hx] at h'; cases h'
    | none =>
      rw [hx] at h'
      rcases List.mem_cons.1 he with rfl | he
      · exact hx
      · exact allWhole_true h' e he
/-- The heap behind an operation of such a region. -/
theorem updDK_ok {γ : Type} {u : List Up} {h : T Blk} {k : T Blk → R γ} {r : γ} {acc : Nat → Option Blk} {nx nx' : Nat} (hr : updDK u h k = .ok r) (hup : ∀ e ∈ u, UpOK acc nx nx' e) (hle : nx ≤ nx')
    (hacc : ∀ k c, cof acc k = some c → cof h.get k = some c) (hdom : Dom h nx) :
    ∃ h', k h' = .ok r ∧ (∀ k, ¬ upKey nx nx' u k → cof h'.get k = cof h.get k) ∧ (∀ k c, cof h'.get k = some c → upKey nx nx' u k → upVal u k = some c) ∧ Dom h' nx' := by
  have hlt : ∀ e ∈ u, (e.1 = nx ∧ nx' = nx + 1 ∧ e.2.1 = none) ∨ e.1 < nx := by
    intro e he
    rcases hup e he with q | ⟨⟨j, q1⟩, _⟩
    · exact Or.inl q
    · right
      cases hx : cof acc (e.1, j) with
      | none => exact absurd hx q1
      | some c => exact hdom _ c (hacc _ c hx)
  unfold updDK at hr
  split at hr
  · rename_i i a e b
    obtain ⟨p, h1, h2⟩ := oR_ok.1 hr
    obtain ⟨q, h3, h4⟩ := oR_ok.1 h2
    obtain ⟨m, c'⟩ := p
    obtain ⟨n, c⟩ := q
    have := asCells_some h1; subst this
    have hc := cellsOf_some h3
    obtain ⟨c2, h5, h6, h7⟩ := mergeK_ok h4
    simp only [T.setK_eq] at h5
    have hi : i < nx := by
      rcases hlt _ (List.mem_singleton.2 rfl) with ⟨_, _, q⟩ | q
      · cases q
      · exact q
    have hget : ∀ k, cof (T.set h i (.cells n c2)).get k = if i = k.1 then (c2.get k.2).map .val else cof h.get k := by
      intro k
      simp only [cof, T.get_set]
      by_cases e : i = k.1 <;> simp [e]
    have hkey : ∀ j, a ≤ j → j < e → upKey nx nx' [(i, some (a, e), .cells m c')] (i, j) := fun j j1 j2 =>
      Or.inr ⟨_, List.mem_singleton.2 rfl, hi, rfl, fun r hr => by cases hr; exact ⟨j1, j2⟩⟩
    refine ⟨_, h5, fun k hk => ?_, fun k x hx hk => ?_, fun k x hx => ?_⟩
    · rw [hget]
      by_cases ei : i = k.1
      · rw [if_pos ei, h7 k.2, if_neg]
        · simp only [cof, ← ei, hc]
        · rintro ⟨q1, q2⟩
          refine hk ?_
          have := hkey k.2 q1 (by omega)
          rw [show (i, k.2) = k from Prod.ext ei rfl] at this; exact this
      · rw [if_neg ei]
    · rw [hget] at hx
      rcases hk with ⟨q1, q2⟩ | ⟨e', q1, q2, q3, q4⟩
      · rw [if_neg (by omega)] at hx
        have := hdom k x hx; omega
      · rw [List.mem_singleton] at q1; subst q1
        simp only at q3 q4
        obtain ⟨r1, r2⟩ := q4 _ rfl
        simp only at r1 r2
        rw [if_pos q3, h7 k.2, if_pos (by omega)] at hx
        simp only [upVal, cof, upB, q3, if_true]
        exact hx
    · rw [hget] at hx
      by_cases ei : i = k.1
      · omega
      · rw [if_neg ei] at hx
        have := hdom k x hx; omega
  · rw [ib_eq] at hr
    split at hr
    · rename_i hall
      have hwh := allWhole_true hall
      rw [updK_eq] at hr
      refine ⟨_, hr, fun k hk => ?_, fun k x hx hk => ?_, fun k x hx => ?_⟩
      · cases hb : upB u k.1 with
        | none => simp only [cof, upds_get u h k.1, hb]
        | some b =>
          obtain ⟨e, h1, h2, h3⟩ := upB_some hb
          exfalso
          rcases hlt e h1 with ⟨q1, q2, _⟩ | q
          · exact hk (Or.inl ⟨by omega, by omega⟩)
          · exact hk (Or.inr ⟨e, h1, q, h2, fun r hr => by rw [hwh e h1] at hr; cases hr⟩)
      · cases hb : upB u k.1 with
        | some b =>
          have := upds_get u h k.1
          rw [hb] at this
          simp only [cof, this] at hx
          simp only [upVal, cof, hb]; exact hx
        | none =>
          exfalso
          have hh : cof (upds u h).get k = cof h.get k := by simp only [cof, upds_get u h k.1, hb]
          rw [hh] at hx
          have := hdom k x hx
          rcases hk with ⟨e, _⟩ | ⟨e, h1, h2, h3⟩
          · omega
          · obtain ⟨b, hb'⟩ := upB_mem h1
            rw [h3.1, hb] at hb'; cases hb'
      · cases hb : upB u k.1 with
        | some b =>
          obtain ⟨e, h1, h2, h3⟩ := upB_some hb
          rcases hlt e h1 with ⟨q1, q2, _⟩ | q <;> omega
        | none =>
          have hh : cof (upds u h).get k = cof h.get k := by simp only [cof, upds_get u h k.1, hb]
          rw [hh] at hx
          have := hdom k x hx; omega
    · cases hr
theorem Good.mono {pre : Nat → Nat → Bool} {τ : Nat → Option V} {η : K → Option Cell} {tch tch' : List Nat} (hm : ∀ i ∈ tch, i ∈ tch') : ∀ {recs : List Rec2}, Good P ops G N base pre τ η tch recs → Good P ops G N base pre τ η tch' recs
  | [], _ => trivial
  | r :: recs, h => ⟨⟨h.1.i, h.1.op, h.1.vis, h.1.key, h.1.late, h.1.rng, fun k h1 h2 => hm _ (h.1.tch k h1 h2)⟩, Good.mono hm h.2⟩
/-- What the executor keeps while it goes through a region that leaves its order open. -/
structure TI (P : Program) (ops : Array Oper) (G N base : Nat) (pre : Nat → Nat → Bool) (tS : T V) (hS : T Blk) (nxS : Nat) (chS : List Nat) (h0 : T Blk) (recs : List Rec2) (t : T V) (h : T Blk) (nx : Nat) (tch : List Nat) : Prop where
  good : Good P ops G N base pre tS.get (cof hS.get) tch recs
  tm : ∀ i u, t.get i = some u → sT tS.get all recs i = some u
  hp : ∀ k c, cof h.get k = some c → sH (cof hS.get) all recs k = some c
  hi : ∀ q ∈ recs, q.hi ≤ nx
  lo : ∀ q ∈ recs, nxS ≤ q.lo
  pinv : PInv h0 base h nx tch
  le : nxS ≤ nx
  tl : ∀ q ∈ recs, ∀ e ∈ q.tch, e.1 < nx
  sub : ∀ i ∈ chS, i ∈ tch
theorem OpSound.congr {i : Nat} {o : Oper} {τ : Nat → Option V} {acc : K → Option Cell} {key key' : K → Prop} {val val' : K → Option Cell} {v : V} {lo hi : Nat}
    (h : OpSound P ops N i o G τ acc key val v lo hi) (hk : ∀ k, key' k ↔ key k) (hv : ∀ k c, key k → val' k = some c → val k = some c) : OpSound P ops N i o G τ acc key' val' v lo hi := by
  obtain rfl : key' = key := funext fun k => propext (hk k)
  intro μ A w a Q K' h1 h2 h3 h4 h5 h6 h7 h8
  refine h μ A w a Q K' h1 h2 h3 h4 h5 h6 h7 fun y w' μ' hp => h8 y w' μ' ⟨hp.le, hp.res, fun k c q1 q2 => hp.hp k c q1 (hv k c q1 q2), fun k k' c c' q1 q2 q3 q4 => hp.inj k k' c c' q1 q2 (hv k c q1 q3) (hv k' c' q2 q4),
    fun k c q1 q2 q3 => ?_, hp.fr⟩
  rcases hp.new k c q1 (hv k c q1 q2) q3 with q | ⟨k', c', q4, q5, q6⟩
  · exact Or.inl q
  · refine Or.inr ⟨k', c', q4, fun j => ⟨(q5 j).1, ?_⟩, q6⟩
    cases e : val' (k'.1, j) with
    | none => rfl
    | some x => have := hv _ x (q5 j).1 e; rw [(q5 j).2] at this; cases this
/-- One record more. -/
theorem TI.step {pre : Nat → Nat → Bool} {tS t t' : T V} {hS h h' h0 : T Blk} {nxS nx nx' : Nat} {recs : List Rec2} {tch ids chS : List Nat} {r : Rec2} {o : Oper} (hT : TI P ops G N base pre tS hS nxS chS h0 recs t h nx tch)
    (hi : r.i = recs.length) (ho : ops[r.i]? = some o) (hdst : r.dst = o.dst) (hd : ∀ d, o.dst = some d → d < N) (hop : OpSound P ops N r.i o G (sT tS.get all recs) r.see r.key r.val r.v nx nx')
    (hlo : r.lo = nx) (hhi : r.hi = nx') (hle : nx ≤ nx') (htl : ∀ e ∈ r.tch, e.1 < nx) (hh : r.h = h') (hsee : ∀ k c, r.see k = some c → cof h.get k = some c ∧ ∀ q ∈ recs, pre r.i q.i = false → ¬ q.key k)
    (hkey : ∀ k, r.old k → r.see k ≠ none ∨ ((∃ j, r.see (k.1, j) ≠ none) ∧ (∀ j, r.old (k.1, j)) ∧ ∀ q ∈ recs, pre r.i q.i = false → ∀ j, ¬ q.key (k.1, j)))
    (hlate : ∀ q ∈ recs, pre r.i q.i = false → ∀ k, r.old k → q.see k = none) (hold : ∀ k, r.old k → k.1 ∈ ids) (hids : ∀ i ∈ ids, ∃ j, cof h.get (i, j) ≠ none)
    (hsame : ∀ k, ¬ r.key k → cof h'.get k = cof h.get k) (hdom : Dom h' nx') (ht : ∀ i u, t'.get i = some u → (o.dst = some i ∧ u = r.v) ∨ (o.dst ≠ some i ∧ t.get i = some u)) :
    TI P ops G N base pre tS hS nxS chS h0 (r :: recs) t' h' nx' (adds base ids tch) := by
  have hp := hT.pinv
  have hvis : ∀ k c, r.see k = some c → sH (cof hS.get) all recs k = some c ∧ k.1 < r.lo ∧ ∀ q ∈ recs, pre r.i q.i = false → ¬ q.key k := fun k c hk =>
    ⟨hT.hp k c (hsee k c hk).1, by rw [hlo]; exact hp.dom k c (hsee k c hk).1, (hsee k c hk).2⟩
  have hsub : ∀ i ∈ tch, i ∈ adds base ids tch := fun i hi => mem_adds.2 (Or.inl hi)
  refine ⟨⟨⟨hi, ⟨o, ho, hdst, hd, by rw [hlo, hhi]; exact hop⟩, hvis, hkey, hlate, ⟨by rw [hlo]; exact hp.le, by rw [hlo, hhi]; exact hle, fun q hq => by rw [hlo]; exact hT.hi q hq⟩, fun k h1 h2 => mem_adds.2 (Or.inr ⟨hold k h1, h2⟩)⟩,
    Good.mono hsub hT.good⟩, fun i u hu => ?_, fun k c hc => ?_, fun q hq => ?_, fun q hq => ?_, ?_, Nat.le_trans hT.le hle, fun q hq e he => ?_, fun i hi => hsub i (hT.sub i hi)⟩
  · simp only [sT, all, true_and]
    rcases ht i u hu with ⟨h1, h2⟩ | ⟨h1, h2⟩
    · rw [hdst, if_pos h1, h2]
    · rw [hdst, if_neg h1]; exact hT.tm i u h2
  · simp only [sH, all, true_and]
    by_cases hk : r.key k
    · rw [if_pos hk]
      show cof r.h.get k = some c
      rw [hh]; exact hc
    · rw [if_neg hk]; exact hT.hp k c (by rw [← hsame k hk]; exact hc)
  · rcases List.mem_cons.1 hq with rfl | hq
    · rw [hhi]; exact Nat.le_refl _
    · exact Nat.le_trans (hT.hi q hq) hle
  · rcases List.mem_cons.1 hq with rfl | hq
    · rw [hlo]; exact hT.le
    · exact hT.lo q hq
  · refine ⟨Nat.le_trans hp.le hle, hdom, fun k hk hn => ?_, fun i hi => ?_⟩
    · have hn1 : k.1 ∉ tch := fun e => hn (hsub _ e)
      have hn2 : k.1 ∉ ids := fun e => hn (mem_adds.2 (Or.inr ⟨e, hk⟩))
      rw [hsame k, hp.same k hk hn1]
      rintro (⟨e, _⟩ | e)
      · have := hp.le; omega
      · exact hn2 (hold k e)
    · rcases mem_adds.1 hi with e | ⟨e, e2⟩
      · exact hp.tch i e
      · refine ⟨e2, ?_⟩
        by_cases e3 : i ∈ tch
        · exact (hp.tch i e3).2
        · obtain ⟨j, hj⟩ := hids i e
          exact ⟨j, by rw [← hp.same (i, j) e2 e3]; exact hj⟩
  · rcases List.mem_cons.1 hq with rfl | hq
    · exact Nat.lt_of_lt_of_le (htl e he) hle
    · exact Nat.lt_of_lt_of_le (hT.tl q hq e he) hle
end
end Go.X
