/- Plain laws on zones: what the reference's Offset and SplitMinute come to. No condition but those in each theorem. -/
import Derived.Test.YtbgojnjpkflofaaZpB
import Derived.Test.YtbgojnjpkflofaaPx3
namespace Go.Proofs.Ytbgojnjpkflofaa.Zp
open Go.RowKit Go.Proofs.YtbgojnjpkflofaaW.PrintWords Go.Proofs.YtbgojnjpkflofaaW.PrintLast Go.Proofs.YtbgojnjpkflofaaW.PrintMore
open Go.Proofs.Ytbgojnjpkflofaa.P

theorem roffset_loop (s : ByteArray) (o : Int) (l : List S52) (hl : l.length ≤ 16) (t : Int) (d : Nat) : ∀ (i : Nat) (n : Int), i + d = l.length → Ev (fun k => pairingref5_Offset.l0 k t n (i : Int) s o l) (offAt n (l.drop i) t) := by
  induction d with
  | zero =>
    intro i n hi
    refine Ev.step (f := fun _ => some (offAt n (l.drop i) t)) (fun k => ?_) (Ev.now _)
    simp only [pairingref5_Offset.l0]
    rw [if_neg (by omega), List.drop_eq_nil_of_le (by omega)]
    rfl
  | succ d ih =>
    intro i n hi
    have hw : wrap64 ((i : Int) + 1) = ((i + 1 : Nat) : Int) := by rw [wrap_id (by omega) (by omega)]; omega
    have e := drop_at l (i : Int) (by omega) (by omega)
    rw [show ((i : Int)).toNat = i from by omega, show ((i : Int) + 1).toNat = i + 1 from by omega] at e
    rw [e]
    simp only [offAt]
    by_cases h : (rd_T52 l (i : Int)).f0 ≤ t
    · rw [if_pos h]
      refine Ev.step (f := fun k => pairingref5_Offset.l0 k t (rd_T52 l (i : Int)).f1 ((i + 1 : Nat) : Int) s o l) (fun k => ?_) (ih (i + 1) _ (by omega))
      simp only [pairingref5_Offset.l0]
      rw [if_pos (by omega), if_pos (by omega), if_pos h, hw]
    · rw [if_neg h]
      refine Ev.step (f := fun k => pairingref5_Offset.l0 k t n ((i + 1 : Nat) : Int) s o l) (fun k => ?_) (ih (i + 1) _ (by omega))
      simp only [pairingref5_Offset.l0]
      rw [if_pos (by omega), if_pos (by omega), if_neg h, hw]
theorem roffset (s : ByteArray) (o : Int) (l : List S52) (hl : l.length ≤ 16) (t : Int) : Ev (fun k => pairingref5_Offset.f k s o l t) (offAt o l t) :=
  roffset_loop s o l hl t l.length 0 o (by omega)
theorem rsplit_f {m : Int} (h0 : -1000000000000000 ≤ m) (h1 : m ≤ 1000000000000000) : pairingref5_SplitMinute.f m = some (m / 1440, m % 1440) := by
  have hf : pairingref5_floor.f m 1440 = some (m / 1440) := by
    unfold pairingref5_floor.f
    rw [if_neg (by decide)]
    by_cases hm : 0 ≤ m
    · rw [Int.tmod_eq_emod_of_nonneg hm, Int.tdiv_eq_ediv_of_nonneg hm, if_neg (by omega), wrap_id (by omega) (by omega)]
    · obtain ⟨n, rfl⟩ : ∃ n, m = -n := ⟨-m, by omega⟩
      rw [Int.neg_tmod, Int.neg_tdiv, Int.tmod_eq_emod_of_nonneg (by omega), Int.tdiv_eq_ediv_of_nonneg (by omega)]
      by_cases h2 : -(n % 1440) < 0
      · rw [if_pos h2, wrap_id (n := -(n / 1440)) (by omega) (by omega), wrap_id (by omega) (by omega)]
        congr 1; omega
      · rw [if_neg h2, wrap_id (by omega) (by omega)]
        congr 1; omega
  unfold pairingref5_SplitMinute.f
  rw [hf, Option.bind_some, wrap_id (n := 1440 * (m / 1440)) (by omega) (by omega), wrap_id (by omega) (by omega)]
  congr 2
  omega
theorem rspan_f (a b : Int) : pairingref5_span.f a b = some (spB a b) := by
  unfold pairingref5_span.f spB
  by_cases h : a ≥ 0
  · rw [if_pos h]
    by_cases h2 : a ≤ b
    · rw [if_pos h2]; simp [h, h2]
    · rw [if_neg h2]; simp [h2]
  · rw [if_neg h]; simp only [ge_iff_le] at h; simp [h]
end Go.Proofs.Ytbgojnjpkflofaa.Zp
