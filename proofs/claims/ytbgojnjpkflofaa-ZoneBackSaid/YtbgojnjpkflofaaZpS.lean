/- The plain law ZoneBack: the law's function comes to true. No condition but those in each theorem. -/
import Derived.Test.YtbgojnjpkflofaaZpI
import Derived.Test.YtbgojnjpkflofaaZpB
import Derived.Test.YtbgojnjpkflofaaPx18
namespace Go.Proofs.Ytbgojnjpkflofaa.Zp
open Go.RowKit Go.Proofs.YtbgojnjpkflofaaW.PrintWords Go.Proofs.YtbgojnjpkflofaaW.PrintLast Go.Proofs.YtbgojnjpkflofaaW.PrintMore
open Go.Proofs.Ytbgojnjpkflofaa.P

theorem dropInt (l : List Int) (i : Nat) (h : i < l.length) : l.drop i = rd l (i : Int) :: l.drop (i + 1) := by
  rw [List.drop_eq_getElem_cons h]
  unfold rd
  rw [show ((i : Int)).toNat = i from by omega, List.getD_eq_getElem?_getD, List.getElem?_eq_getElem h]
  rfl
theorem rd_mem (l : List Int) (i : Nat) (h : i < l.length) : rd l (i : Int) ∈ l := by
  unfold rd
  rw [show ((i : Int)).toNat = i from by omega, List.getD_eq_getElem?_getD, List.getElem?_eq_getElem h]
  exact List.getElem_mem h
theorem rd_lt (l : List Int) (hl : l.Pairwise (· < ·)) (i : Nat) (h : i + 1 < l.length) : rd l (i : Int) < rd l ((i : Int) + 1) := by
  have e1 := dropInt l i (by omega)
  have e2 := dropInt l (i + 1) h
  have hp : (l.drop i).Pairwise (· < ·) := List.Pairwise.sublist (List.drop_sublist i l) hl
  rw [e1, e2] at hp
  have := (List.pairwise_cons.1 hp).1 _ List.mem_cons_self
  rwa [show ((i + 1 : Nat) : Int) = (i : Int) + 1 from by omega] at this
theorem back_loop (s : ByteArray) (o : Int) (l : List S52) (t d c : Int) (L : List Int) (hL : L.Pairwise (· < ·)) (hlen : L.length ≤ 100000)
    (hT : ∀ x ∈ L, locTime s o l x = (d, c, 0)) (n : Nat) : ∀ (i : Nat) (f : Bool), i + n = L.length → (f = true ∨ t ∈ L.drop i) →
    Ev (fun k => pairinglaw7_ZoneBack.l0 k t d c L f (i : Int) s o l) true := by
  induction n with
  | zero =>
    intro i f hi hf
    rw [List.drop_eq_nil_of_le (by omega)] at hf
    have hf' : f = true := by
      rcases hf with h | h
      · exact h
      · cases h
    subst hf'
    refine Ev.step (f := fun k => (pairinglaw7_awake.f k).bind fun t => some t) (fun k => ?_) (Ev.bind awake_true (Ev.now _))
    simp only [pairinglaw7_ZoneBack.l0]
    rw [if_neg (by omega), if_pos trivial]
  | succ n ih =>
    intro i f hi hf
    have hw : wrap64 ((i : Int) + 1) = ((i + 1 : Nat) : Int) := by rw [wrap_id (by omega) (by omega)]; omega
    have hw1 : wrap64 ((i : Int) - 1) = (i : Int) - 1 := wrap_id (by omega) (by omega)
    have T := localTime s o l (rd L (i : Int))
    rw [hT _ (rd_mem L i (by omega))] at T
    have hgt : i > 0 → ¬ rd L (i : Int) ≤ rd L ((i : Int) - 1) := fun h => by
      have := rd_lt L hL (i - 1) (by omega)
      rw [show ((i - 1 : Nat) : Int) = (i : Int) - 1 from by omega, show (i : Int) - 1 + 1 = (i : Int) from by omega] at this
      omega
    have N : Ev (fun k => if f = true then pairinglaw7_ZoneBack.l0 k t d c L true ((i + 1 : Nat) : Int) s o l else pairinglaw7_ZoneBack.l0 k t d c L (rd L (i : Int) == t) ((i + 1 : Nat) : Int) s o l) true := by
      cases f with
      | true => simp only [if_true]; exact ih (i + 1) true (by omega) (.inl rfl)
      | false =>
        simp only [Bool.false_eq_true, if_false]
        refine ih (i + 1) _ (by omega) ?_
        rcases hf with h | h
        · cases h
        · rw [dropInt L i (by omega)] at h
          rcases List.mem_cons.1 h with h | h
          · left; simp [h]
          · exact .inr h
    refine Ev.step (f := fun k => (zone_LocalTime.f k s o l (rd L (i : Int))).bind fun b => if b = (d, c, 0) then (if f = true then pairinglaw7_ZoneBack.l0 k t d c L true ((i + 1 : Nat) : Int) s o l else pairinglaw7_ZoneBack.l0 k t d c L (rd L (i : Int) == t) ((i + 1 : Nat) : Int) s o l) else some false) (fun k => ?_) ?_
    · simp only [pairinglaw7_ZoneBack.l0]
      rw [if_pos (by omega), if_pos (by omega)]
      congr 1
      funext b
      obtain ⟨b1, b2, b3⟩ := b
      by_cases h : (b1, b2, b3) = (d, c, 0)
      · rw [if_pos h]
        simp only [Prod.mk.injEq] at h
        simp only [h.1, h.2.1, h.2.2, if_true, hw, hw1]
        by_cases h0 : (i : Int) > 0
        · rw [if_pos h0, if_pos (by omega), if_pos (by omega), if_neg (hgt (by omega))]
        · rw [if_neg h0]
      · rw [if_neg h]
        simp only [Prod.mk.injEq] at h
        by_cases h3 : b3 = 0
        · by_cases h1 : b1 = d
          · by_cases h2 : b2 = c
            · exact absurd ⟨h1, h2, h3⟩ h
            · simp only [h3, h1, h2, if_true, if_false]
          · simp only [h3, h1, if_true, if_false]
        · simp only [h3, if_false]
    · refine Ev.bind T ?_
      simp only [if_true]
      exact N
theorem zoneBack_true (s : ByteArray) (o : Int) (l : List S52) (t : Int) : Ev (fun k => pairinglaw7_ZoneBack.f k s o l t) true := by
  unfold pairinglaw7_ZoneBack.f
  have JT : Ev (fun k => pairinglaw7_ZoneBack.j0 k t true s o l) true :=
    Ev.step (f := fun k => (pairinglaw7_awake.f k).bind fun t => some t) (fun k => by simp only [pairinglaw7_ZoneBack.j0, if_true]) (Ev.bind awake_true (Ev.now _))
  by_cases h1 : (l.length : Int) > 40
  · simp only [if_pos h1]; exact JT
  simp only [if_neg h1]
  refine Ev.bind (rvalidate s o l) ?_
  by_cases h0 : valErr s o l = 0
  · simp only [if_pos h0]
    by_cases h2 : t < 0
    · simp only [if_pos h2]; exact JT
    simp only [if_neg h2]
    by_cases h3 : t ≥ 52596000
    · simp only [h3, decide_true]; exact JT
    simp only [h3, decide_false]
    obtain ⟨ho, hl, hc⟩ := chain_of_valid h0
    have eo : ∀ x, 0 ≤ x → x < 52596000 → offErr s o l x = 0 := fun x a b => by
      unfold offErr
      rw [if_pos h0, if_pos (insB_iff.2 ⟨a, b⟩)]
    have hg := offB_iff.1 (offAt_ok l 0 o hc ho t)
    have elt : ∀ x, 0 ≤ x → x < 52596000 → locTime s o l x = ((x + offAt o l x) / 1440, (x + offAt o l x) % 1440, 0) := fun x a b => by
      unfold locTime
      rw [if_pos (eo x a b)]
    have ei : insts s o l ((t + offAt o l t) / 1440) ((t + offAt o l t) % 1440) = (instL o l (t + offAt o l t), 0) := by
      unfold insts
      rw [if_pos h0, if_neg (by omega), if_neg (by omega), show 1440 * ((t + offAt o l t) / 1440) + (t + offAt o l t) % 1440 = t + offAt o l t from by omega]
    have T := localTime s o l t
    rw [elt t (by omega) (by omega)] at T
    have I := instants s o l ((t + offAt o l t) / 1440) ((t + offAt o l t) % 1440)
    rw [ei] at I
    refine Ev.step (f := fun k => _) (fun k => by simp only [pairinglaw7_ZoneBack.j0, Bool.false_eq_true, if_false]; rfl) ?_
    refine Ev.bind T (Ev.bind I ?_)
    simp only [if_true]
    rw [show ((0 : Int) != 0) = false from rfl]
    refine Ev.step (f := fun k => pairinglaw7_ZoneBack.l0 k t ((t + offAt o l t) / 1440) ((t + offAt o l t) % 1440) (instL o l (t + offAt o l t)) false 0 s o l) (fun k => by simp only [pairinglaw7_ZoneBack.j1, Bool.false_eq_true, if_false]) ?_
    have hlen := instL_len o l (t + offAt o l t)
    have hasc : (instL o l (t + offAt o l t)).Pairwise (· < ·) := asc_filter _ (asc_ints _ _)
    refine back_loop s o l t _ _ (instL o l (t + offAt o l t)) hasc (by omega) (fun x hx => ?_) (instL o l (t + offAt o l t)).length 0 false (by omega) (.inr ?_)
    · have hm := (mem_instL o l _ hc ho x).1 hx
      rw [elt x hm.1.1 hm.1.2, hm.2]
    · rw [List.drop_zero]
      exact (mem_instL o l _ hc ho t).2 ⟨⟨by omega, by omega⟩, rfl⟩
  · simp only [if_neg h0]; exact JT
end Go.Proofs.Ytbgojnjpkflofaa.Zp
