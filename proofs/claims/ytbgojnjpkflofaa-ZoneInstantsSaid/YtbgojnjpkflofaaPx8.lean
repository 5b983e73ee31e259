/- Walks: each Go function named below, called with what its Lean function answers, returns just that (printed by wip/zone/zprint.py of this session over the print of the kit; text.IsName and zone.segments by hand). Conditions: those in each theorem. -/
import Derived.Test.YtbgojnjpkflofaaPx0
import Derived.Test.YtbgojnjpkflofaaPx1
import Derived.Test.YtbgojnjpkflofaaPx2
import Derived.Test.YtbgojnjpkflofaaPx3
import Derived.Test.YtbgojnjpkflofaaPx7
namespace Go.Proofs.Ytbgojnjpkflofaa.P
open Go.RowKit Go.Proofs.YtbgojnjpkflofaaW.PrintWords Go.Proofs.YtbgojnjpkflofaaW.PrintLast Go.Proofs.YtbgojnjpkflofaaW.PrintMore
attribute [local go_sem] max2_int min2_int max_two min_two max_three min_three max_four min_four   -- for this text's walks alone
set_option linter.unusedVariables false
set_option linter.unusedSimpArgs false

/-! ### pairingref5_Instants: function 24 -/
mutual
def pairingref5_Instants.j0 : Nat → Int → Int → Bool → ByteArray → Int → List (S52) → Option (List Int × Int)
  | 0, _, _, _, _, _, _ => none
  | k + 1, x1, x2, x22, x221000, x221001, x221002 => if x22 = true then (some (([] : List Int), 5)) else (if x1 < (-2) then (pairingref5_Instants.j1 k x1 x2 ([] : List Int) true x221000 x221001 x221002) else (pairingref5_Instants.j1 k x1 x2 ([] : List Int) (decide (x1 > 36527)) x221000 x221001 x221002))
def pairingref5_Instants.j1 : Nat → Int → Int → List Int → Bool → ByteArray → Int → List (S52) → Option (List Int × Int)
  | 0, _, _, _, _, _, _, _ => none
  | k + 1, x1, x2, x9, x28, x221000, x221001, x221002 => if x28 = true then (some (([] : List Int), 0)) else (pairingref5_Instants.l0 k x9 (wrap64 ((wrap64 (1440 * x1)) + x2)) (wrap64 ((wrap64 ((wrap64 (1440 * x1)) + x2)) - 840)) x221000 x221001 x221002)
def pairingref5_Instants.l0 : Nat → List Int → Int → Int → ByteArray → Int → List (S52) → Option (List Int × Int)
  | 0, _, _, _, _, _, _ => none
  | k + 1, x9, x10, x11, x221000, x221001, x221002 => if x11 ≤ (wrap64 (x10 + 840)) then ((pairingref5_instant.f x11).bind fun t222 => (if t222 = true then ((pairingref5_Offset.f k x221000 x221001 x221002 x11).bind fun t223 => (if (wrap64 (x11 + t223)) = x10 then (if x9.length < 17592186044416 then (pairingref5_Instants.l0 k (x9 ++ [x11]) x10 (wrap64 (x11 + 1)) x221000 x221001 x221002) else (none)) else (pairingref5_Instants.l0 k x9 x10 (wrap64 (x11 + 1)) x221000 x221001 x221002))) else (pairingref5_Instants.l0 k x9 x10 (wrap64 (x11 + 1)) x221000 x221001 x221002))) else (some (x9, 0))
end
def pairingref5_Instants.f (k : Nat) (a0_0 : ByteArray) (a0_1 : Int) (l0_2 : List (S52)) (a1 : Int) (a2 : Int) : Option (List Int × Int) := (pairingref5_ValidateZone.f k a0_0 a0_1 l0_2).bind fun t221 => (if t221 = 0 then (if a2 < 0 then (pairingref5_Instants.j0 k a1 a2 true a0_0 a0_1 l0_2) else (pairingref5_Instants.j0 k a1 a2 (decide (a2 > 1439)) a0_0 a0_1 l0_2)) else (some (([] : List Int), t221)))
theorem pairingref5_Instants.mono_l : ∀ k, (∀ y0 y1 y2 y3 y4 y5, LeO (pairingref5_Instants.j0 k y0 y1 y2 y3 y4 y5) (pairingref5_Instants.j0 (k + 1) y0 y1 y2 y3 y4 y5)) ∧ (∀ y0 y1 y2 y3 y4 y5 y6, LeO (pairingref5_Instants.j1 k y0 y1 y2 y3 y4 y5 y6) (pairingref5_Instants.j1 (k + 1) y0 y1 y2 y3 y4 y5 y6)) ∧ (∀ y0 y1 y2 y3 y4 y5, LeO (pairingref5_Instants.l0 k y0 y1 y2 y3 y4 y5) (pairingref5_Instants.l0 (k + 1) y0 y1 y2 y3 y4 y5))
  | 0 => ⟨fun _ _ _ _ _ _ r h => by simp [pairingref5_Instants.j0] at h, fun _ _ _ _ _ _ _ r h => by simp [pairingref5_Instants.j1] at h, fun _ _ _ _ _ _ r h => by simp [pairingref5_Instants.l0] at h⟩
  | k + 1 => by
    obtain ⟨ih0, ih1, ih2⟩ := pairingref5_Instants.mono_l k
    refine ⟨?_, ?_, ?_⟩
    · intro y0 y1 y2 y3 y4 y5
      unfold pairingref5_Instants.j0
      repeat' first
      | (with_reducible exact ih0 _ _ _ _ _ _)
      | (with_reducible exact ih1 _ _ _ _ _ _ _)
      | (with_reducible exact ih2 _ _ _ _ _ _)
      | (with_reducible exact pairingref5_Offset.mono _ _ _ _ _)
      | (with_reducible exact pairingref5_ValidateZone.mono _ _ _ _)
      | (with_reducible exact LeO.refl _)
      | (with_reducible exact LeO.none _)
      | (with_reducible refine LeO.ite ?_ ?_)
      | (with_reducible refine LeO.bind ?_ (fun _ => ?_))
      | exact ih0 _ _ _ _ _ _
      | exact ih1 _ _ _ _ _ _ _
      | exact ih2 _ _ _ _ _ _
      | exact pairingref5_Offset.mono _ _ _ _ _
      | exact pairingref5_ValidateZone.mono _ _ _ _
      | exact LeO.none _
      | refine LeO.ite ?_ ?_
      | refine LeO.bind ?_ (fun _ => ?_)
    · intro y0 y1 y2 y3 y4 y5 y6
      unfold pairingref5_Instants.j1
      repeat' first
      | (with_reducible exact ih0 _ _ _ _ _ _)
      | (with_reducible exact ih1 _ _ _ _ _ _ _)
      | (with_reducible exact ih2 _ _ _ _ _ _)
      | (with_reducible exact pairingref5_Offset.mono _ _ _ _ _)
      | (with_reducible exact pairingref5_ValidateZone.mono _ _ _ _)
      | (with_reducible exact LeO.refl _)
      | (with_reducible exact LeO.none _)
      | (with_reducible refine LeO.ite ?_ ?_)
      | (with_reducible refine LeO.bind ?_ (fun _ => ?_))
      | exact ih0 _ _ _ _ _ _
      | exact ih1 _ _ _ _ _ _ _
      | exact ih2 _ _ _ _ _ _
      | exact pairingref5_Offset.mono _ _ _ _ _
      | exact pairingref5_ValidateZone.mono _ _ _ _
      | exact LeO.none _
      | refine LeO.ite ?_ ?_
      | refine LeO.bind ?_ (fun _ => ?_)
    · intro y0 y1 y2 y3 y4 y5
      unfold pairingref5_Instants.l0
      repeat' first
      | (with_reducible exact ih0 _ _ _ _ _ _)
      | (with_reducible exact ih1 _ _ _ _ _ _ _)
      | (with_reducible exact ih2 _ _ _ _ _ _)
      | (with_reducible exact pairingref5_Offset.mono _ _ _ _ _)
      | (with_reducible exact pairingref5_ValidateZone.mono _ _ _ _)
      | (with_reducible exact LeO.refl _)
      | (with_reducible exact LeO.none _)
      | (with_reducible refine LeO.ite ?_ ?_)
      | (with_reducible refine LeO.bind ?_ (fun _ => ?_))
      | exact ih0 _ _ _ _ _ _
      | exact ih1 _ _ _ _ _ _ _
      | exact ih2 _ _ _ _ _ _
      | exact pairingref5_Offset.mono _ _ _ _ _
      | exact pairingref5_ValidateZone.mono _ _ _ _
      | exact LeO.none _
      | refine LeO.ite ?_ ?_
      | refine LeO.bind ?_ (fun _ => ?_)
theorem pairingref5_Instants.mono : ∀ a0 a1 a2 a3 a4 k, LeO (pairingref5_Instants.f k a0 a1 a2 a3 a4) (pairingref5_Instants.f (k + 1) a0 a1 a2 a3 a4) := by
  intro a0 a1 a2 a3 a4 k
  obtain ⟨ih0, ih1, ih2⟩ := pairingref5_Instants.mono_l k
  unfold pairingref5_Instants.f
  repeat' first
      | (with_reducible exact ih0 _ _ _ _ _ _)
      | (with_reducible exact ih1 _ _ _ _ _ _ _)
      | (with_reducible exact ih2 _ _ _ _ _ _)
      | (with_reducible exact pairingref5_Offset.mono _ _ _ _ _)
      | (with_reducible exact pairingref5_ValidateZone.mono _ _ _ _)
      | (with_reducible exact LeO.refl _)
      | (with_reducible exact LeO.none _)
      | (with_reducible refine LeO.ite ?_ ?_)
      | (with_reducible refine LeO.bind ?_ (fun _ => ?_))
      | exact ih0 _ _ _ _ _ _
      | exact ih1 _ _ _ _ _ _ _
      | exact ih2 _ _ _ _ _ _
      | exact pairingref5_Offset.mono _ _ _ _ _
      | exact pairingref5_ValidateZone.mono _ _ _ _
      | exact LeO.none _
      | refine LeO.ite ?_ ?_
      | refine LeO.bind ?_ (fun _ => ?_)
set_option maxHeartbeats 8000000 in
set_option maxRecDepth 100000 in
theorem pairingref5_Instants.calls (k : Nat) (a0_0 : ByteArray) (a0_1 : Int) (A0_2 : Option Addr) (c0_2 : Nat) (l0_2 : List (S52)) (a1 : Int) (a2 : Int) (r1 : List Int) (r2 : Int) (w : World) (hr0_2 : Kd.C k52 w A0_2 l0_2.length l0_2) (hc0_2 : l0_2.length ≤ c0_2) (h : pairingref5_Instants.f k a0_0 a0_1 l0_2 a1 a2 = some (r1, r2)) :
    Calls Try.prog 24 #[.agg #[.string a0_0, .int .i64 a0_1, .slice A0_2 l0_2.length c0_2], .int .i64 a1, .int .i64 a2] w fun e w' => ∃ v0_ : Value, e = .returned (.tuple #[v0_, .int .i64 r2]) ∧ Kd.R (Kd.int .i64) 3 w' w.heap.size (fun _ => True) v0_ r1 ∧ Below w.heap.size w w' := by
  have hu24 := Try.underlying24
  have HR0_2 := Aside0.mk hr0_2
  have HC0_2 := Aside0.mk hc0_2
  clear hr0_2 hc0_2
  have HB := Aside0.mk (Below.refl w.heap.size w)
  have H : ((pairingref5_ValidateZone.f k a0_0 a0_1 l0_2).bind fun t221 => (if t221 = 0 then (if a2 < 0 then (pairingref5_Instants.j0 k a1 a2 true a0_0 a0_1 l0_2) else (pairingref5_Instants.j0 k a1 a2 (decide (a2 > 1439)) a0_0 a0_1 l0_2)) else (some (([] : List Int), t221)))) = some (r1, r2) := h
  clear h
  replace H := Option.bind_eq_some_iff.mp H
  obtain ⟨t221, A40, H⟩ := H
  replace H : (if t221 = 0 then (if a2 < 0 then (pairingref5_Instants.j0 k a1 a2 true a0_0 a0_1 l0_2) else (pairingref5_Instants.j0 k a1 a2 (decide (a2 > 1439)) a0_0 a0_1 l0_2)) else (some (([] : List Int), t221))) = some (r1, r2) := H
  have A4 := Aside0.mk A40
  clear A40
  by_cases c5 : t221 = 0
  · rw [if_pos c5] at H
    have c5b0 : (t221 == 0) = true := beq_iff_eq.mpr c5
    have c5b1 : (t221 != 0) = false := bne_eq_false_iff_eq.mpr c5
    clear c5
    have HC6 := Aside0.mk H
    clear H
    go_enter Try.func24, Try.ntmps24
    go_upto_region 4 with (first | ((with_reducible refine gate_dst (N := 3) rfl ?_); refine box_event ?hg (N := 3) ?hd (cs := #[.string a0_0, .int .i64 a0_1, .slice A0_2 l0_2.length c0_2]) (t := 24) ?hr ?_; (case hd => rfl); (case hg => rfl); (case hr => first | (go_simp; done) | (go_simp; rfl)); intro gb220 hg w7 hbox hb; have n0_ := Aside0.mk (below_step (by repeat (first | (with_reducible first | exact HB.out | apply below_alloc | apply pw_below_drewN | apply below_drew1) | exact HB.out)) hb); have n1_ := Aside0.mk (hbox); have n2_ := Aside0.mk ((by rw [hg]; exact (below_size (by repeat (first | (with_reducible first | exact HB.out | apply below_alloc | apply pw_below_drewN | apply below_drew1) | exact HB.out))) : w.heap.size ≤ gb220)); have n3_ := Aside0.mk ((by rw [hg]; exact (below_size (by repeat (first | (with_reducible first | exact HB.out | apply below_alloc | apply pw_below_drewN | apply below_drew1) | exact HB.out))) : w.heap.size ≤ gb220)); clear HB; have HB := n0_; have BK220 := n1_; have GW220 := n2_; have GE220 := n3_; clear n0_ n1_ n2_ n3_; clear hb hbox hg; have hcz8_0 : w7.cell? ⟨gb220, 0, none⟩ = some (.string a0_0) := (blk_cell BK220.out 0).trans rfl; have hcz8_1 : w7.cell? ⟨gb220, 1, none⟩ = some (.int .i64 a0_1) := (blk_cell BK220.out 1).trans rfl; have hcz8_2 : w7.cell? ⟨gb220, 2, none⟩ = some (.slice A0_2 l0_2.length c0_2) := (blk_cell BK220.out 2).trans rfl; have hfz8_0 := blk_frozen BK220.out 0; have hfz8_1 := blk_frozen BK220.out 1; have hfz8_2 := blk_frozen BK220.out 2) | ((with_reducible refine gate_callee (f := 13) rfl ?_); refine goesL_ (some 13) rfl rfl Try.func13 (by kernel_rfl) rfl #[.agg #[.string a0_0, .int .i64 a0_1, .slice A0_2 l0_2.length c0_2]] rfl (by (try simp only [List.map_toArray, List.map_cons, List.map_nil]); first | done | rfl | (simp only [List.length_drop, List.length_take]; rfl)) ?_; (with_reducible refine (pairingref5_ValidateZone.calls k a0_0 a0_1 _ _ l0_2 t221 _ ?side1 ?side2 A4.out).mono ?_); (case side1 => repeat (first | exact (Kd.C_below HR0_2.out HB.out) | (with_reducible refine Kd.C_alloc ?_ _) | (with_reducible refine Kd.C_drewN ?_ _) | (with_reducible refine Kd.C_drew ?_))); (case side2 => exact HC0_2.out); rintro e w9 ⟨rfl, hb⟩; refine ⟨_, rfl, ?_⟩; have n0_ := Aside0.mk (blk_below (g := gb220) (o := .cells #[.string a0_0, .int .i64 a0_1, .slice A0_2 l0_2.length c0_2] 24 (0, 0)) (by (with_reducible repeat (first | refine blk_drewN ?_ _ | refine blk_drew ?_ | refine blk_alloc ?_ _)); exact BK220.out) hb); have n1_ := Aside0.mk (below_step (by repeat (first | (with_reducible first | exact HB.out | apply below_alloc | apply pw_below_drewN | apply below_drew1 | refine below_set ?_ GE220.out) | exact HB.out)) hb); clear BK220; clear HB; have BK220 := n0_; have HB := n1_; clear n0_ n1_; (try clear hb); (try clear hb2); (try clear hk); (try clear hi)))
    (try simp only [Act.put, List.setIfInBounds_toArray, List.set_cons_zero, List.set_cons_succ])
    go_cut [22] (fun v22 wc => ∃ (kq : Nat) (x22_5 : Bool), v22 = .bool x22_5 ∧ Aside0 (pairingref5_Instants.j0 kq a1 a2 x22_5 a0_0 a0_1 l0_2 = some (r1, r2)) ∧ Aside0 (kq ≤ k) ∧ Aside0 (wc.heap[gb220]? = some (.cells #[.string a0_0, .int .i64 a0_1, (.slice A0_2 l0_2.length c0_2)] 24 (0, 0))) ∧ Aside0 (Below w.heap.size w wc))
    case first =>
      have H := HC6.out
      clear HC6
      by_cases c10 : a2 < 0
      · rw [if_pos c10] at H
        have c10b0 : decide (a2 < 0) = true := decide_eq_true c10
        clear c10
        (first | rw [c10b0] | (simp only [i64_w, i32_w]; rw [c10b0]) | skip)
        have H' := Aside0.mk H
        clear H
        go_wp2
        go_meet
        case rel => exact ⟨_, (true), (by first | rfl | (simp; done) | (simp [*]; done)), H', ⟨by first | omega | exact Nat.le_refl _⟩, ⟨by (with_reducible repeat (first | refine blk_drewN ?_ _ | refine blk_drew ?_ | refine blk_alloc ?_ _)); exact BK220.out⟩, ⟨by repeat (first | (with_reducible first | exact HB.out | apply below_alloc | apply pw_below_drewN | apply below_drew1 | refine below_set ?_ GE220.out) | exact HB.out)⟩⟩
      · rw [if_neg c10] at H
        have c10b0 : decide (a2 < 0) = false := decide_eq_false c10
        clear c10
        (first | rw [c10b0] | (simp only [i64_w, i32_w]; rw [c10b0]) | skip)
        have H' := Aside0.mk H
        clear H
        go_wp2
        go_meet
        case rel => exact ⟨_, (decide (a2 > 1439)), (by first | rfl | (simp; done) | (simp [*]; done)), H', ⟨by first | omega | exact Nat.le_refl _⟩, ⟨by (with_reducible repeat (first | refine blk_drewN ?_ _ | refine blk_drew ?_ | refine blk_alloc ?_ _)); exact BK220.out⟩, ⟨by repeat (first | (with_reducible first | exact HB.out | apply below_alloc | apply pw_below_drewN | apply below_drew1 | refine below_set ?_ GE220.out) | exact HB.out)⟩⟩
    case rest =>
      clear HC6
      try clear c1
      try clear c2
      try clear p2
      try clear c5
      try clear c5b0
      try clear c5b1
      try clear c10
      try clear c10b0
      try clear hcz8_0
      try clear hcz8_1
      try clear hcz8_2
      try clear hfz8_0
      try clear hfz8_1
      try clear hfz8_2
      obtain ⟨kq, x22_5, rfl, HA, HJ5, BK220, HB⟩ := hcut
      cases kq with
      | zero => exact absurd HA.out (by simp [pairingref5_Instants.j0])
      | succ kj5 =>
        have H := HA.out
        clear HA
        simp only [pairingref5_Instants.j0] at H
        by_cases c11 : x22_5 = true
        · subst c11
          have H1 : (some (([] : List Int), 5)) = some (r1, r2) := by rw [if_pos rfl] at H; exact H
          clear H
          have H := H1
          clear H1
          simp only [Option.some.injEq, Prod.mk.injEq] at H
          obtain ⟨rfl, rfl⟩ := H
          go_wp2
          go_ret2
          exact ⟨_, by first | rfl | (simp [errW_none, errW_some] <;> rfl) | (simp [*, errW_none, errW_some] <;> rfl), by first | exact Kd.R_nil _ _ _ _ _ | exact Kd.N_nil _ _ _ _ _ | exact Kd.V_nil _ _ _ _ _ | exact Kd.Q_nil _ _ _ _ _ | exact Kd.S_nil _ _ _ _ _, by repeat (first | (with_reducible first | exact HB.out | apply below_alloc | apply pw_below_drewN | apply below_drew1 | refine below_set ?_ GE220.out) | exact HB.out)⟩
        · replace c11 := Bool.eq_false_iff.mpr c11
          subst c11
          have H1 : (if a1 < (-2) then (pairingref5_Instants.j1 kj5 a1 a2 ([] : List Int) true a0_0 a0_1 l0_2) else (pairingref5_Instants.j1 kj5 a1 a2 ([] : List Int) (decide (a1 > 36527)) a0_0 a0_1 l0_2)) = some (r1, r2) := by rw [if_neg (show ¬ (false = true) by decide)] at H; exact H
          clear H
          have H := H1
          clear H1
          have HC12 := Aside0.mk H
          clear H
          go_upto_region 7 with (fail)
          go_cut [28] (fun v28 wc => ∃ (kq : Nat) (x28_11 : Bool), v28 = .bool x28_11 ∧ Aside0 (pairingref5_Instants.j1 kq a1 a2 ([] : List Int) x28_11 a0_0 a0_1 l0_2 = some (r1, r2)) ∧ Aside0 (kq ≤ kj5) ∧ Aside0 (Kd.R (Kd.int .i64) 3 wc w.heap.size (fun _ => True) (.slice none 0 0) ([] : List Int)) ∧ Aside0 (wc.heap[gb220]? = some (.cells #[.string a0_0, .int .i64 a0_1, (.slice A0_2 l0_2.length c0_2)] 24 (0, 0))) ∧ Aside0 (Below w.heap.size w wc))
          case first =>
            have H := HC12.out
            clear HC12
            by_cases c13 : a1 < (-2)
            · rw [if_pos c13] at H
              have c13b0 : decide (a1 < (-2)) = true := decide_eq_true c13
              clear c13
              (first | rw [c13b0] | (simp only [i64_w, i32_w]; rw [c13b0]) | skip)
              have H' := Aside0.mk H
              clear H
              go_wp2
              go_meet
              case rel => exact ⟨_, (true), (by first | rfl | (simp; done) | (simp [*]; done)), H', ⟨by have := HJ5.out; first | omega | exact Nat.le_refl _⟩, ⟨by first | exact Kd.R_nil _ _ _ _ _ | exact Kd.N_nil _ _ _ _ _ | exact Kd.V_nil _ _ _ _ _ | exact Kd.Q_nil _ _ _ _ _ | exact Kd.S_nil _ _ _ _ _⟩, ⟨by (with_reducible repeat (first | refine blk_drewN ?_ _ | refine blk_drew ?_ | refine blk_alloc ?_ _)); exact BK220.out⟩, ⟨by repeat (first | (with_reducible first | exact HB.out | apply below_alloc | apply pw_below_drewN | apply below_drew1 | refine below_set ?_ GE220.out) | exact HB.out)⟩⟩
            · rw [if_neg c13] at H
              have c13b0 : decide (a1 < (-2)) = false := decide_eq_false c13
              clear c13
              (first | rw [c13b0] | (simp only [i64_w, i32_w]; rw [c13b0]) | skip)
              have H' := Aside0.mk H
              clear H
              go_wp2
              go_meet
              case rel => exact ⟨_, (decide (a1 > 36527)), (by first | rfl | (simp; done) | (simp [*]; done)), H', ⟨by have := HJ5.out; first | omega | exact Nat.le_refl _⟩, ⟨by first | exact Kd.R_nil _ _ _ _ _ | exact Kd.N_nil _ _ _ _ _ | exact Kd.V_nil _ _ _ _ _ | exact Kd.Q_nil _ _ _ _ _ | exact Kd.S_nil _ _ _ _ _⟩, ⟨by (with_reducible repeat (first | refine blk_drewN ?_ _ | refine blk_drew ?_ | refine blk_alloc ?_ _)); exact BK220.out⟩, ⟨by repeat (first | (with_reducible first | exact HB.out | apply below_alloc | apply pw_below_drewN | apply below_drew1 | refine below_set ?_ GE220.out) | exact HB.out)⟩⟩
          case rest =>
            clear HC12
            try clear c1
            try clear c2
            try clear p2
            try clear c5
            try clear c5b0
            try clear c5b1
            try clear c10
            try clear c10b0
            try clear c11
            try clear c13
            try clear c13b0
            try clear hcz8_0
            try clear hcz8_1
            try clear hcz8_2
            try clear hfz8_0
            try clear hfz8_1
            try clear hfz8_2
            try clear p2
            obtain ⟨kq, x28_11, rfl, HA, HJ11, HO_9, BK220, HB⟩ := hcut
            cases kq with
            | zero => exact absurd HA.out (by simp [pairingref5_Instants.j1])
            | succ kj11 =>
              have H := HA.out
              clear HA
              simp only [pairingref5_Instants.j1] at H
              by_cases c14 : x28_11 = true
              · subst c14
                have H1 : (some (([] : List Int), 0)) = some (r1, r2) := by rw [if_pos rfl] at H; exact H
                clear H
                have H := H1
                clear H1
                simp only [Option.some.injEq, Prod.mk.injEq] at H
                obtain ⟨rfl, rfl⟩ := H
                go_wp2
                go_ret2
                exact ⟨_, by first | rfl | (simp [errW_none, errW_some] <;> rfl) | (simp [*, errW_none, errW_some] <;> rfl), by first | exact Kd.R_nil _ _ _ _ _ | exact Kd.N_nil _ _ _ _ _ | exact Kd.V_nil _ _ _ _ _ | exact Kd.Q_nil _ _ _ _ _ | exact Kd.S_nil _ _ _ _ _, by repeat (first | (with_reducible first | exact HB.out | apply below_alloc | apply pw_below_drewN | apply below_drew1 | refine below_set ?_ GE220.out) | exact HB.out)⟩
              · replace c14 := Bool.eq_false_iff.mpr c14
                subst c14
                have H1 : (pairingref5_Instants.l0 kj11 ([] : List Int) (wrap64 ((wrap64 (1440 * a1)) + a2)) (wrap64 ((wrap64 ((wrap64 (1440 * a1)) + a2)) - 840)) a0_0 a0_1 l0_2) = some (r1, r2) := by rw [if_neg (show ¬ (false = true) by decide)] at H; exact H
                clear H
                have H := H1
                clear H1
                have H' := Aside0.mk H
                clear H
                go_wp2
                go_loopg [9, 11] kj11 (fun kq v9 v11 w' => ∃ (x9_3 : List Int) (x11_3 : Int), v11 = .int .i64 x11_3 ∧ Aside0 (pairingref5_Instants.l0 kq x9_3 (wrap64 ((wrap64 (1440 * a1)) + a2)) x11_3 a0_0 a0_1 l0_2 = some (r1, r2)) ∧ Aside0 (kq ≤ kj11) ∧ Aside0 (Kd.R (Kd.int .i64) 3 w' w.heap.size (fun _ => True) v9 x9_3) ∧ Aside0 (w'.heap[gb220]? = some (.cells #[.string a0_0, .int .i64 a0_1, (.slice A0_2 l0_2.length c0_2)] 24 (0, 0))) ∧ Aside0 (Below w.heap.size w w'))
                case atStart => exact ⟨(([] : List Int)), (wrap64 ((wrap64 ((wrap64 (1440 * a1)) + a2)) - 840)), (by first | rfl | (simp; done) | (simp [*]; done)), H', ⟨Nat.le_refl _⟩, ⟨by (with_reducible repeat (first | apply Kd.R_alloc | apply Kd.R_drewN | apply Kd.R_drew)); exact HO_9.out⟩, ⟨by (with_reducible repeat (first | refine blk_drewN ?_ _ | refine blk_drew ?_ | refine blk_alloc ?_ _)); exact BK220.out⟩, ⟨by repeat (first | (with_reducible first | exact HB.out | apply below_alloc | apply pw_below_drewN | apply below_drew1 | refine below_set ?_ GE220.out) | exact HB.out)⟩⟩
                case round =>
                  clear H'
                  try clear c1
                  try clear c2
                  try clear p2
                  try clear c5
                  try clear c5b0
                  try clear c5b1
                  try clear p6
                  try clear c10
                  try clear c10b0
                  try clear c11
                  try clear c13
                  try clear c13b0
                  try clear c14
                  try clear hcz8_0
                  try clear hcz8_1
                  try clear hcz8_2
                  try clear hfz8_0
                  try clear hfz8_1
                  try clear hfz8_2
                  try clear p2
                  obtain ⟨x9_3, x11_3, rfl, HA, HK3, HO_9, BK220, HB⟩ := hrel
                  cases gk with
                  | zero => exact absurd HA.out (by simp [pairingref5_Instants.l0])
                  | succ k3 =>
                    have H := HA.out
                    clear HA
                    simp only [pairingref5_Instants.l0] at H
                    by_cases c15 : x11_3 ≤ (wrap64 ((wrap64 ((wrap64 (1440 * a1)) + a2)) + 840))
                    · rw [if_pos c15] at H
                      have c15b0 : decide (x11_3 ≤ (wrap64 ((wrap64 ((wrap64 (1440 * a1)) + a2)) + 840))) = true := decide_eq_true c15
                      clear c15
                      replace H := Option.bind_eq_some_iff.mp H
                      obtain ⟨t222, A160, H⟩ := H
                      replace H : (if t222 = true then ((pairingref5_Offset.f k3 a0_0 a0_1 l0_2 x11_3).bind fun t223 => (if (wrap64 (x11_3 + t223)) = (wrap64 ((wrap64 (1440 * a1)) + a2)) then (if x9_3.length < 17592186044416 then (pairingref5_Instants.l0 k3 (x9_3 ++ [x11_3]) (wrap64 ((wrap64 (1440 * a1)) + a2)) (wrap64 (x11_3 + 1)) a0_0 a0_1 l0_2) else (none)) else (pairingref5_Instants.l0 k3 x9_3 (wrap64 ((wrap64 (1440 * a1)) + a2)) (wrap64 (x11_3 + 1)) a0_0 a0_1 l0_2))) else (pairingref5_Instants.l0 k3 x9_3 (wrap64 ((wrap64 (1440 * a1)) + a2)) (wrap64 (x11_3 + 1)) a0_0 a0_1 l0_2)) = some (r1, r2) := H
                      have A16 := Aside0.mk A160
                      clear A160
                      by_cases c17 : t222 = true
                      · subst c17
                        have H1 : ((pairingref5_Offset.f k3 a0_0 a0_1 l0_2 x11_3).bind fun t223 => (if (wrap64 (x11_3 + t223)) = (wrap64 ((wrap64 (1440 * a1)) + a2)) then (if x9_3.length < 17592186044416 then (pairingref5_Instants.l0 k3 (x9_3 ++ [x11_3]) (wrap64 ((wrap64 (1440 * a1)) + a2)) (wrap64 (x11_3 + 1)) a0_0 a0_1 l0_2) else (none)) else (pairingref5_Instants.l0 k3 x9_3 (wrap64 ((wrap64 (1440 * a1)) + a2)) (wrap64 (x11_3 + 1)) a0_0 a0_1 l0_2))) = some (r1, r2) := by rw [if_pos rfl] at H; exact H
                        clear H
                        have H := H1
                        clear H1
                        replace H := Option.bind_eq_some_iff.mp H
                        obtain ⟨t223, A180, H⟩ := H
                        replace H : (if (wrap64 (x11_3 + t223)) = (wrap64 ((wrap64 (1440 * a1)) + a2)) then (if x9_3.length < 17592186044416 then (pairingref5_Instants.l0 k3 (x9_3 ++ [x11_3]) (wrap64 ((wrap64 (1440 * a1)) + a2)) (wrap64 (x11_3 + 1)) a0_0 a0_1 l0_2) else (none)) else (pairingref5_Instants.l0 k3 x9_3 (wrap64 ((wrap64 (1440 * a1)) + a2)) (wrap64 (x11_3 + 1)) a0_0 a0_1 l0_2)) = some (r1, r2) := H
                        have A18 := Aside0.mk A180
                        clear A180
                        by_cases c19 : (wrap64 (x11_3 + t223)) = (wrap64 ((wrap64 (1440 * a1)) + a2))
                        · rw [if_pos c19] at H
                          have c19b0 : ((wrap64 (x11_3 + t223)) == (wrap64 ((wrap64 (1440 * a1)) + a2))) = true := beq_iff_eq.mpr c19
                          have c19b1 : ((wrap64 (x11_3 + t223)) != (wrap64 ((wrap64 (1440 * a1)) + a2))) = false := bne_eq_false_iff_eq.mpr c19
                          clear c19
                          by_cases c20 : x9_3.length < 17592186044416
                          · rw [if_pos c20] at H
                            have LMc20 := Aside0.mk c20
                            clear c20
                            obtain ⟨y224, hy224⟩ : ∃ y_ : List Int, y_ = (x9_3 ++ [x11_3]) := ⟨_, rfl⟩
                            replace H : (pairingref5_Instants.l0 k3 y224 (wrap64 ((wrap64 (1440 * a1)) + a2)) (wrap64 (x11_3 + 1)) a0_0 a0_1 l0_2) = some (r1, r2) := by first | (rw [hy224]; with_reducible exact H) | (have H2_ := (Option.bind_some _ _).symm.trans H; rw [hy224]; with_reducible exact H2_) | (have H2_ := (Option.bind_some _ _).symm.trans H; with_reducible exact H2_) | with_reducible exact H | (rw [hy224]; exact H) | exact H
                            have Ny224 := Aside0.mk hy224
                            clear hy224
                            have H' := Aside0.mk H
                            clear H
                            go_wp2_with (first | ((with_reducible refine gate_callee (f := 35) rfl ?_); refine goesL_ (some 42) rfl rfl Try.func35 (by kernel_rfl) rfl #[.int .i64 x11_3] rfl (by (try simp only [List.map_toArray, List.map_cons, List.map_nil]); first | done | rfl | (simp only [List.length_drop, List.length_take]; rfl)) ?_; (with_reducible refine (pairingref5_instant.calls x11_3 true _ A16.out).mono ?_); rintro e w' ⟨rfl, ⟨nd, rfl⟩⟩; refine ⟨_, rfl, ?_⟩; have hcz21_0 : wr.cell? ⟨gb220, 0, none⟩ = some (.string a0_0) := (blk_cell BK220.out 0).trans rfl; have hcz21_1 : wr.cell? ⟨gb220, 1, none⟩ = some (.int .i64 a0_1) := (blk_cell BK220.out 1).trans rfl; have hcz21_2 : wr.cell? ⟨gb220, 2, none⟩ = some (.slice A0_2 l0_2.length c0_2) := (blk_cell BK220.out 2).trans rfl; have hfz21_0 := blk_frozen BK220.out 0; have hfz21_1 := blk_frozen BK220.out 1; have hfz21_2 := blk_frozen BK220.out 2) | (go_at_call 37; (with_reducible refine (pairingref5_Offset.calls k3 a0_0 a0_1 _ _ l0_2 x11_3 t223 _ ?side1 ?side2 A18.out).mono ?_); (case side1 => repeat (first | exact (Kd.C_below HR0_2.out (by repeat (first | (with_reducible first | exact HB.out | apply below_alloc | apply pw_below_drewN | apply below_drew1 | refine below_set ?_ GE220.out) | exact HB.out))) | (with_reducible refine Kd.C_alloc ?_ _) | (with_reducible refine Kd.C_drewN ?_ _) | (with_reducible refine Kd.C_drew ?_))); (case side2 => exact HC0_2.out); rintro e w22 ⟨rfl, hb⟩; have n0_ := Aside0.mk (Kd.R_below (by (with_reducible repeat (first | apply Kd.R_alloc | apply Kd.R_drewN | apply Kd.R_drew)); exact HO_9.out) hb); have n1_ := Aside0.mk (blk_below (g := gb220) (o := .cells #[.string a0_0, .int .i64 a0_1, .slice A0_2 l0_2.length c0_2] 24 (0, 0)) (by (with_reducible repeat (first | refine blk_drewN ?_ _ | refine blk_drew ?_ | refine blk_alloc ?_ _)); exact BK220.out) hb); have n2_ := Aside0.mk (below_step (by repeat (first | (with_reducible first | exact HB.out | apply below_alloc | apply pw_below_drewN | apply below_drew1 | refine below_set ?_ GE220.out) | exact HB.out)) hb); clear HO_9; clear BK220; clear HB; have HO_9 := n0_; have BK220 := n1_; have HB := n2_; clear n0_ n1_ n2_; (try clear hb); (try clear hb2); (try clear hk); (try clear hi)) | ((with_reducible refine gate_builtin (b := .append) (xs := #[.tmp 52, .tmp 54]) rfl ?_); at_builtin; refine Kd.R_append (Kd.int .i64) (w0 := w) w.heap.size rfl (.tmp 52) (.tmp 54) 38 3 (.int .i64 0) 8 rfl Try.underlying38 info3 rfl (by decide) (by omega) u9 x9_3 x11_3 [.int .i64 x11_3] (fun _ => True) (fun _ => False) rfl rfl ?aP (fun _ hk => hk.elim) ?aF ?aO ?aB ?aS ?aL ?_; (case aP => exact rfl); (case aB => exact (by repeat (first | (with_reducible first | exact HB.out | apply below_alloc | apply pw_below_drewN | apply below_drew1 | refine below_set ?_ GE220.out) | exact HB.out))); (case aF => exact (fun _ _ => trivial)); (case aO => exact (by (with_reducible repeat (first | apply Kd.R_alloc | apply Kd.R_drewN | apply Kd.R_drew)); exact HO_9.out)); (case aS => exact (below_size (by repeat (first | (with_reducible first | exact HB.out | apply below_alloc | apply pw_below_drewN | apply below_drew1 | refine below_set ?_ GE220.out) | exact HB.out)))); (case aL => have := LMc20.out; omega); intro v225 w23 ho hb hg hat; rw [← Ny224.out] at ho; have n0_ := Aside0.mk (blk_grown (g := gb220) (o := .cells #[.string a0_0, .int .i64 a0_1, .slice A0_2 l0_2.length c0_2] 24 (0, 0)) (by (with_reducible repeat (first | refine blk_drewN ?_ _ | refine blk_drew ?_ | refine blk_alloc ?_ _)); exact BK220.out) hg (Kd.R_ne HO_9.out BK220.out (by decide))); have n1_ := Aside0.mk (hb); have n2_ := Aside0.mk (ho); clear BK220; clear HB; clear HO_9; have BK220 := n0_; have HB := n1_; have HO226 := n2_; clear n0_ n1_ n2_; clear ho hb hg hat))
                            go_roundg k3
                            case measure => have := HJ5.out; have := HJ11.out; have := HK3.out; omega
                            case rel => exact ⟨(y224), (wrap64 (x11_3 + 1)), (by first | rfl | (simp; done) | (simp [*]; done)), H', ⟨by have := HJ5.out; have := HJ11.out; have := HK3.out; omega⟩, ⟨by (with_reducible repeat (first | apply Kd.R_alloc | apply Kd.R_drewN | apply Kd.R_drew)); exact HO226.out⟩, ⟨by (with_reducible repeat (first | refine blk_drewN ?_ _ | refine blk_drew ?_ | refine blk_alloc ?_ _)); exact BK220.out⟩, ⟨by repeat (first | (with_reducible first | exact HB.out | apply below_alloc | apply pw_below_drewN | apply below_drew1 | refine below_set ?_ GE220.out) | exact HB.out)⟩⟩
                          · rw [if_neg c20] at H
                            exact absurd H (by simp)
                        · rw [if_neg c19] at H
                          have c19b0 : ((wrap64 (x11_3 + t223)) == (wrap64 ((wrap64 (1440 * a1)) + a2))) = false := beq_eq_false_iff_ne.mpr c19
                          have c19b1 : ((wrap64 (x11_3 + t223)) != (wrap64 ((wrap64 (1440 * a1)) + a2))) = true := bne_iff_ne.mpr c19
                          have H' := Aside0.mk H
                          clear H
                          go_wp2_with (first | ((with_reducible refine gate_callee (f := 35) rfl ?_); refine goesL_ (some 42) rfl rfl Try.func35 (by kernel_rfl) rfl #[.int .i64 x11_3] rfl (by (try simp only [List.map_toArray, List.map_cons, List.map_nil]); first | done | rfl | (simp only [List.length_drop, List.length_take]; rfl)) ?_; (with_reducible refine (pairingref5_instant.calls x11_3 true _ A16.out).mono ?_); rintro e w' ⟨rfl, ⟨nd, rfl⟩⟩; refine ⟨_, rfl, ?_⟩; have hcz24_0 : wr.cell? ⟨gb220, 0, none⟩ = some (.string a0_0) := (blk_cell BK220.out 0).trans rfl; have hcz24_1 : wr.cell? ⟨gb220, 1, none⟩ = some (.int .i64 a0_1) := (blk_cell BK220.out 1).trans rfl; have hcz24_2 : wr.cell? ⟨gb220, 2, none⟩ = some (.slice A0_2 l0_2.length c0_2) := (blk_cell BK220.out 2).trans rfl; have hfz24_0 := blk_frozen BK220.out 0; have hfz24_1 := blk_frozen BK220.out 1; have hfz24_2 := blk_frozen BK220.out 2) | (go_at_call 37; (with_reducible refine (pairingref5_Offset.calls k3 a0_0 a0_1 _ _ l0_2 x11_3 t223 _ ?side1 ?side2 A18.out).mono ?_); (case side1 => repeat (first | exact (Kd.C_below HR0_2.out (by repeat (first | (with_reducible first | exact HB.out | apply below_alloc | apply pw_below_drewN | apply below_drew1 | refine below_set ?_ GE220.out) | exact HB.out))) | (with_reducible refine Kd.C_alloc ?_ _) | (with_reducible refine Kd.C_drewN ?_ _) | (with_reducible refine Kd.C_drew ?_))); (case side2 => exact HC0_2.out); rintro e w25 ⟨rfl, hb⟩; have n0_ := Aside0.mk (Kd.R_below (by (with_reducible repeat (first | apply Kd.R_alloc | apply Kd.R_drewN | apply Kd.R_drew)); exact HO_9.out) hb); have n1_ := Aside0.mk (blk_below (g := gb220) (o := .cells #[.string a0_0, .int .i64 a0_1, .slice A0_2 l0_2.length c0_2] 24 (0, 0)) (by (with_reducible repeat (first | refine blk_drewN ?_ _ | refine blk_drew ?_ | refine blk_alloc ?_ _)); exact BK220.out) hb); have n2_ := Aside0.mk (below_step (by repeat (first | (with_reducible first | exact HB.out | apply below_alloc | apply pw_below_drewN | apply below_drew1 | refine below_set ?_ GE220.out) | exact HB.out)) hb); clear HO_9; clear BK220; clear HB; have HO_9 := n0_; have BK220 := n1_; have HB := n2_; clear n0_ n1_ n2_; (try clear hb); (try clear hb2); (try clear hk); (try clear hi)))
                          go_roundg k3
                          case measure => have := HJ5.out; have := HJ11.out; have := HK3.out; omega
                          case rel => exact ⟨(x9_3), (wrap64 (x11_3 + 1)), (by first | rfl | (simp; done) | (simp [*]; done)), H', ⟨by have := HJ5.out; have := HJ11.out; have := HK3.out; omega⟩, ⟨by (with_reducible repeat (first | apply Kd.R_alloc | apply Kd.R_drewN | apply Kd.R_drew)); exact HO_9.out⟩, ⟨by (with_reducible repeat (first | refine blk_drewN ?_ _ | refine blk_drew ?_ | refine blk_alloc ?_ _)); exact BK220.out⟩, ⟨by repeat (first | (with_reducible first | exact HB.out | apply below_alloc | apply pw_below_drewN | apply below_drew1 | refine below_set ?_ GE220.out) | exact HB.out)⟩⟩
                      · replace c17 := Bool.eq_false_iff.mpr c17
                        subst c17
                        have H1 : (pairingref5_Instants.l0 k3 x9_3 (wrap64 ((wrap64 (1440 * a1)) + a2)) (wrap64 (x11_3 + 1)) a0_0 a0_1 l0_2) = some (r1, r2) := by rw [if_neg (show ¬ (false = true) by decide)] at H; exact H
                        clear H
                        have H := H1
                        clear H1
                        have H' := Aside0.mk H
                        clear H
                        go_wp2_with (first | ((with_reducible refine gate_callee (f := 35) rfl ?_); refine goesL_ (some 42) rfl rfl Try.func35 (by kernel_rfl) rfl #[.int .i64 x11_3] rfl (by (try simp only [List.map_toArray, List.map_cons, List.map_nil]); first | done | rfl | (simp only [List.length_drop, List.length_take]; rfl)) ?_; (with_reducible refine (pairingref5_instant.calls x11_3 false _ A16.out).mono ?_); rintro e w' ⟨rfl, ⟨nd, rfl⟩⟩; refine ⟨_, rfl, ?_⟩))
                        go_roundg k3
                        case measure => have := HJ5.out; have := HJ11.out; have := HK3.out; omega
                        case rel => exact ⟨(x9_3), (wrap64 (x11_3 + 1)), (by first | rfl | (simp; done) | (simp [*]; done)), H', ⟨by have := HJ5.out; have := HJ11.out; have := HK3.out; omega⟩, ⟨by (with_reducible repeat (first | apply Kd.R_alloc | apply Kd.R_drewN | apply Kd.R_drew)); exact HO_9.out⟩, ⟨by (with_reducible repeat (first | refine blk_drewN ?_ _ | refine blk_drew ?_ | refine blk_alloc ?_ _)); exact BK220.out⟩, ⟨by repeat (first | (with_reducible first | exact HB.out | apply below_alloc | apply pw_below_drewN | apply below_drew1 | refine below_set ?_ GE220.out) | exact HB.out)⟩⟩
                    · rw [if_neg c15] at H
                      have c15b0 : decide (x11_3 ≤ (wrap64 ((wrap64 ((wrap64 (1440 * a1)) + a2)) + 840))) = false := decide_eq_false c15
                      clear c15
                      simp only [Option.some.injEq, Prod.mk.injEq] at H
                      obtain ⟨rfl, rfl⟩ := H
                      go_wp2
                      go_ret2
                      exact ⟨_, by first | rfl | (simp [errW_none, errW_some] <;> rfl) | (simp [*, errW_none, errW_some] <;> rfl), by (with_reducible repeat (first | apply Kd.R_alloc | apply Kd.R_drewN | apply Kd.R_drew)); exact HO_9.out, by repeat (first | (with_reducible first | exact HB.out | apply below_alloc | apply pw_below_drewN | apply below_drew1 | refine below_set ?_ GE220.out) | exact HB.out)⟩
  · rw [if_neg c5] at H
    have c5b0 : (t221 == 0) = false := beq_eq_false_iff_ne.mpr c5
    have c5b1 : (t221 != 0) = true := bne_iff_ne.mpr c5
    simp only [Option.some.injEq, Prod.mk.injEq] at H
    obtain ⟨rfl, rfl⟩ := H
    go_enter Try.func24, Try.ntmps24
    go_wp2_with (first | ((with_reducible refine gate_dst (N := 3) rfl ?_); refine box_event ?hg (N := 3) ?hd (cs := #[.string a0_0, .int .i64 a0_1, .slice A0_2 l0_2.length c0_2]) (t := 24) ?hr ?_; (case hd => rfl); (case hg => rfl); (case hr => first | (go_simp; done) | (go_simp; rfl)); intro gb220 hg w26 hbox hb; have n0_ := Aside0.mk (below_step (by repeat (first | (with_reducible first | exact HB.out | apply below_alloc | apply pw_below_drewN | apply below_drew1) | exact HB.out)) hb); have n1_ := Aside0.mk (hbox); have n2_ := Aside0.mk ((by rw [hg]; exact (below_size (by repeat (first | (with_reducible first | exact HB.out | apply below_alloc | apply pw_below_drewN | apply below_drew1) | exact HB.out))) : w.heap.size ≤ gb220)); have n3_ := Aside0.mk ((by rw [hg]; exact (below_size (by repeat (first | (with_reducible first | exact HB.out | apply below_alloc | apply pw_below_drewN | apply below_drew1) | exact HB.out))) : w.heap.size ≤ gb220)); clear HB; have HB := n0_; have BK220 := n1_; have GW220 := n2_; have GE220 := n3_; clear n0_ n1_ n2_ n3_; clear hb hbox hg; have hcz27_0 : w26.cell? ⟨gb220, 0, none⟩ = some (.string a0_0) := (blk_cell BK220.out 0).trans rfl; have hcz27_1 : w26.cell? ⟨gb220, 1, none⟩ = some (.int .i64 a0_1) := (blk_cell BK220.out 1).trans rfl; have hcz27_2 : w26.cell? ⟨gb220, 2, none⟩ = some (.slice A0_2 l0_2.length c0_2) := (blk_cell BK220.out 2).trans rfl; have hfz27_0 := blk_frozen BK220.out 0; have hfz27_1 := blk_frozen BK220.out 1; have hfz27_2 := blk_frozen BK220.out 2) | ((with_reducible refine gate_callee (f := 13) rfl ?_); refine goesL_ (some 13) rfl rfl Try.func13 (by kernel_rfl) rfl #[.agg #[.string a0_0, .int .i64 a0_1, .slice A0_2 l0_2.length c0_2]] rfl (by (try simp only [List.map_toArray, List.map_cons, List.map_nil]); first | done | rfl | (simp only [List.length_drop, List.length_take]; rfl)) ?_; (with_reducible refine (pairingref5_ValidateZone.calls k a0_0 a0_1 _ _ l0_2 t221 _ ?side1 ?side2 A4.out).mono ?_); (case side1 => repeat (first | exact (Kd.C_below HR0_2.out HB.out) | (with_reducible refine Kd.C_alloc ?_ _) | (with_reducible refine Kd.C_drewN ?_ _) | (with_reducible refine Kd.C_drew ?_))); (case side2 => exact HC0_2.out); rintro e w28 ⟨rfl, hb⟩; refine ⟨_, rfl, ?_⟩; have n0_ := Aside0.mk (blk_below (g := gb220) (o := .cells #[.string a0_0, .int .i64 a0_1, .slice A0_2 l0_2.length c0_2] 24 (0, 0)) (by (with_reducible repeat (first | refine blk_drewN ?_ _ | refine blk_drew ?_ | refine blk_alloc ?_ _)); exact BK220.out) hb); have n1_ := Aside0.mk (below_step (by repeat (first | (with_reducible first | exact HB.out | apply below_alloc | apply pw_below_drewN | apply below_drew1 | refine below_set ?_ GE220.out) | exact HB.out)) hb); clear BK220; clear HB; have BK220 := n0_; have HB := n1_; clear n0_ n1_; (try clear hb); (try clear hb2); (try clear hk); (try clear hi)))
    go_ret2
    exact ⟨_, by first | rfl | (simp [errW_none, errW_some] <;> rfl) | (simp [*, errW_none, errW_some] <;> rfl), by first | exact Kd.R_nil _ _ _ _ _ | exact Kd.N_nil _ _ _ _ _ | exact Kd.V_nil _ _ _ _ _ | exact Kd.Q_nil _ _ _ _ _ | exact Kd.S_nil _ _ _ _ _, by repeat (first | (with_reducible first | exact HB.out | apply below_alloc | apply pw_below_drewN | apply below_drew1 | refine below_set ?_ GE220.out) | exact HB.out)⟩

/-! ### pairinglaw7_ZoneInstants: function 6 -/
def pairinglaw7_ZoneInstants.f (k : Nat) (a0_0 : ByteArray) (a0_1 : Int) (l0_2 : List (S52)) (a1 : Int) (a2 : Int) : Option (Bool) := if (l0_2.length : Int) > 40 then ((pairinglaw7_awake.f k).bind fun t230 => (some t230)) else ((zone_Instants.f k a0_0 a0_1 l0_2 a1 a2).bind fun bt231 => ((pairingref5_Instants.f k a0_0 a0_1 l0_2 a1 a2).bind fun bt235 => (if bt231.2 = bt235.2 then ((pairinglaw7_same.f k bt231.1 bt235.1).bind fun t239 => (if t239 = true then ((pairinglaw7_awake.f k).bind fun t240 => (some t240)) else (some false))) else (some false))))
theorem pairinglaw7_ZoneInstants.mono : ∀ a0 a1 a2 a3 a4 k, LeO (pairinglaw7_ZoneInstants.f k a0 a1 a2 a3 a4) (pairinglaw7_ZoneInstants.f (k + 1) a0 a1 a2 a3 a4) := by
  intro a0 a1 a2 a3 a4 k
  unfold pairinglaw7_ZoneInstants.f
  repeat' first
      | (with_reducible exact pairinglaw7_awake.mono _)
      | (with_reducible exact pairinglaw7_same.mono _ _ _)
      | (with_reducible exact pairingref5_Instants.mono _ _ _ _ _ _)
      | (with_reducible exact zone_Instants.mono _ _ _ _ _ _)
      | (with_reducible exact LeO.refl _)
      | (with_reducible exact LeO.none _)
      | (with_reducible refine LeO.ite ?_ ?_)
      | (with_reducible refine LeO.bind ?_ (fun _ => ?_))
      | exact pairinglaw7_awake.mono _
      | exact pairinglaw7_same.mono _ _ _
      | exact pairingref5_Instants.mono _ _ _ _ _ _
      | exact zone_Instants.mono _ _ _ _ _ _
      | exact LeO.none _
      | refine LeO.ite ?_ ?_
      | refine LeO.bind ?_ (fun _ => ?_)
set_option maxHeartbeats 8000000 in
set_option maxRecDepth 100000 in
theorem pairinglaw7_ZoneInstants.calls (k : Nat) (a0_0 : ByteArray) (a0_1 : Int) (A0_2 : Option Addr) (c0_2 : Nat) (l0_2 : List (S52)) (a1 : Int) (a2 : Int) (r : Bool) (w : World) (hr0_2 : Kd.C k52 w A0_2 l0_2.length l0_2) (hc0_2 : l0_2.length ≤ c0_2) (h : pairinglaw7_ZoneInstants.f k a0_0 a0_1 l0_2 a1 a2 = some r) :
    Calls Try.prog 6 #[.agg #[.string a0_0, .int .i64 a0_1, .slice A0_2 l0_2.length c0_2], .int .i64 a1, .int .i64 a2] w fun e w' => e = .returned (.bool r) ∧ Below w.heap.size w w' := by
  have hu24 := Try.underlying24
  have HR0_2 := Aside0.mk hr0_2
  have HC0_2 := Aside0.mk hc0_2
  clear hr0_2 hc0_2
  have HB := Aside0.mk (Below.refl w.heap.size w)
  have H : (if (l0_2.length : Int) > 40 then ((pairinglaw7_awake.f k).bind fun t230 => (some t230)) else ((zone_Instants.f k a0_0 a0_1 l0_2 a1 a2).bind fun bt231 => ((pairingref5_Instants.f k a0_0 a0_1 l0_2 a1 a2).bind fun bt235 => (if bt231.2 = bt235.2 then ((pairinglaw7_same.f k bt231.1 bt235.1).bind fun t239 => (if t239 = true then ((pairinglaw7_awake.f k).bind fun t240 => (some t240)) else (some false))) else (some false))))) = some r := h
  clear h
  by_cases c4 : (l0_2.length : Int) > 40
  · rw [if_pos c4] at H
    have c4b0 : decide (40 < (l0_2.length : Int)) = true := decide_eq_true c4
    have c4b1 : decide (40 < l0_2.length) = true := decide_eq_true (by omega)
    clear c4
    replace H := Option.bind_eq_some_iff.mp H
    obtain ⟨t230, A50, H⟩ := H
    replace H : (some t230) = some r := H
    have A5 := Aside0.mk A50
    clear A50
    obtain rfl := Option.some.inj H
    go_enter Try.func6, Try.ntmps6
    go_wp2_with (first | ((with_reducible refine gate_dst (N := 3) rfl ?_); refine box_event ?hg (N := 3) ?hd (cs := #[.string a0_0, .int .i64 a0_1, .slice A0_2 l0_2.length c0_2]) (t := 24) ?hr ?_; (case hd => rfl); (case hg => rfl); (case hr => first | (go_simp; done) | (go_simp; rfl)); intro gb229 hg w6 hbox hb; have n0_ := Aside0.mk (below_step (by repeat (first | (with_reducible first | exact HB.out | apply below_alloc | apply pw_below_drewN | apply below_drew1) | exact HB.out)) hb); have n1_ := Aside0.mk (hbox); have n2_ := Aside0.mk ((by rw [hg]; exact (below_size (by repeat (first | (with_reducible first | exact HB.out | apply below_alloc | apply pw_below_drewN | apply below_drew1) | exact HB.out))) : w.heap.size ≤ gb229)); have n3_ := Aside0.mk ((by rw [hg]; exact (below_size (by repeat (first | (with_reducible first | exact HB.out | apply below_alloc | apply pw_below_drewN | apply below_drew1) | exact HB.out))) : w.heap.size ≤ gb229)); clear HB; have HB := n0_; have BK229 := n1_; have GW229 := n2_; have GE229 := n3_; clear n0_ n1_ n2_ n3_; clear hb hbox hg; have hcz7_0 : w6.cell? ⟨gb229, 0, none⟩ = some (.string a0_0) := (blk_cell BK229.out 0).trans rfl; have hcz7_1 : w6.cell? ⟨gb229, 1, none⟩ = some (.int .i64 a0_1) := (blk_cell BK229.out 1).trans rfl; have hcz7_2 : w6.cell? ⟨gb229, 2, none⟩ = some (.slice A0_2 l0_2.length c0_2) := (blk_cell BK229.out 2).trans rfl; have hfz7_0 := blk_frozen BK229.out 0; have hfz7_1 := blk_frozen BK229.out 1; have hfz7_2 := blk_frozen BK229.out 2) | ((with_reducible refine gate_callee (f := 11) rfl ?_); refine goesL_ (some 15) rfl rfl Try.func11 (by kernel_rfl) rfl #[] rfl (by (try simp only [List.map_toArray, List.map_cons, List.map_nil]); first | done | rfl | (simp only [List.length_drop, List.length_take]; rfl)) ?_; (with_reducible refine (pairinglaw7_awake.calls k  t230 _ A5.out).mono ?_); rintro e w8 ⟨rfl, hb⟩; refine ⟨_, rfl, ?_⟩; have n0_ := Aside0.mk (blk_below (g := gb229) (o := .cells #[.string a0_0, .int .i64 a0_1, .slice A0_2 l0_2.length c0_2] 24 (0, 0)) (by (with_reducible repeat (first | refine blk_drewN ?_ _ | refine blk_drew ?_ | refine blk_alloc ?_ _)); exact BK229.out) hb); have n1_ := Aside0.mk (below_step (by repeat (first | (with_reducible first | exact HB.out | apply below_alloc | apply pw_below_drewN | apply below_drew1 | refine below_set ?_ GE229.out) | exact HB.out)) hb); clear BK229; clear HB; have BK229 := n0_; have HB := n1_; clear n0_ n1_; (try clear hb); (try clear hb2); (try clear hk); (try clear hi)))
    go_ret
    exact ⟨by first | rfl | (simp [errW_none, errW_some] <;> rfl) | (simp [*, errW_none, errW_some] <;> rfl), by repeat (first | (with_reducible first | exact HB.out | apply below_alloc | apply pw_below_drewN | apply below_drew1 | refine below_set ?_ GE229.out) | exact HB.out)⟩
  · rw [if_neg c4] at H
    have c4b0 : decide (40 < (l0_2.length : Int)) = false := decide_eq_false c4
    have c4b1 : decide (40 < l0_2.length) = false := decide_eq_false (by omega)
    clear c4
    replace H := Option.bind_eq_some_iff.mp H
    obtain ⟨⟨t231, t234⟩, A90, H⟩ := H
    replace H : ((pairingref5_Instants.f k a0_0 a0_1 l0_2 a1 a2).bind fun bt235 => (if t234 = bt235.2 then ((pairinglaw7_same.f k t231 bt235.1).bind fun t239 => (if t239 = true then ((pairinglaw7_awake.f k).bind fun t240 => (some t240)) else (some false))) else (some false))) = some r := H
    have A9 := Aside0.mk A90
    clear A90
    replace H := Option.bind_eq_some_iff.mp H
    obtain ⟨⟨t235, t238⟩, A100, H⟩ := H
    replace H : (if t234 = t238 then ((pairinglaw7_same.f k t231 t235).bind fun t239 => (if t239 = true then ((pairinglaw7_awake.f k).bind fun t240 => (some t240)) else (some false))) else (some false)) = some r := H
    have A10 := Aside0.mk A100
    clear A100
    by_cases c11 : t234 = t238
    · rw [if_pos c11] at H
      have c11b0 : (t234 == t238) = true := beq_iff_eq.mpr c11
      have c11b1 : (t234 != t238) = false := bne_eq_false_iff_eq.mpr c11
      clear c11
      replace H := Option.bind_eq_some_iff.mp H
      obtain ⟨t239, A120, H⟩ := H
      replace H : (if t239 = true then ((pairinglaw7_awake.f k).bind fun t240 => (some t240)) else (some false)) = some r := H
      have A12 := Aside0.mk A120
      clear A120
      by_cases c13 : t239 = true
      · subst c13
        have H1 : ((pairinglaw7_awake.f k).bind fun t240 => (some t240)) = some r := by rw [if_pos rfl] at H; exact H
        clear H
        have H := H1
        clear H1
        replace H := Option.bind_eq_some_iff.mp H
        obtain ⟨t240, A140, H⟩ := H
        replace H : (some t240) = some r := H
        have A14 := Aside0.mk A140
        clear A140
        obtain rfl := Option.some.inj H
        go_enter Try.func6, Try.ntmps6
        go_wp2_with (first | ((with_reducible refine gate_dst (N := 3) rfl ?_); refine box_event ?hg (N := 3) ?hd (cs := #[.string a0_0, .int .i64 a0_1, .slice A0_2 l0_2.length c0_2]) (t := 24) ?hr ?_; (case hd => rfl); (case hg => rfl); (case hr => first | (go_simp; done) | (go_simp; rfl)); intro gb229 hg w15 hbox hb; have n0_ := Aside0.mk (below_step (by repeat (first | (with_reducible first | exact HB.out | apply below_alloc | apply pw_below_drewN | apply below_drew1) | exact HB.out)) hb); have n1_ := Aside0.mk (hbox); have n2_ := Aside0.mk ((by rw [hg]; exact (below_size (by repeat (first | (with_reducible first | exact HB.out | apply below_alloc | apply pw_below_drewN | apply below_drew1) | exact HB.out))) : w.heap.size ≤ gb229)); have n3_ := Aside0.mk ((by rw [hg]; exact (below_size (by repeat (first | (with_reducible first | exact HB.out | apply below_alloc | apply pw_below_drewN | apply below_drew1) | exact HB.out))) : w.heap.size ≤ gb229)); clear HB; have HB := n0_; have BK229 := n1_; have GW229 := n2_; have GE229 := n3_; clear n0_ n1_ n2_ n3_; clear hb hbox hg; have hcz16_0 : w15.cell? ⟨gb229, 0, none⟩ = some (.string a0_0) := (blk_cell BK229.out 0).trans rfl; have hcz16_1 : w15.cell? ⟨gb229, 1, none⟩ = some (.int .i64 a0_1) := (blk_cell BK229.out 1).trans rfl; have hcz16_2 : w15.cell? ⟨gb229, 2, none⟩ = some (.slice A0_2 l0_2.length c0_2) := (blk_cell BK229.out 2).trans rfl; have hfz16_0 := blk_frozen BK229.out 0; have hfz16_1 := blk_frozen BK229.out 1; have hfz16_2 := blk_frozen BK229.out 2) | ((with_reducible refine gate_callee (f := 23) rfl ?_); refine goesL_ (some 20) rfl rfl Try.func23 (by kernel_rfl) rfl #[.agg #[.string a0_0, .int .i64 a0_1, .slice A0_2 l0_2.length c0_2], .int .i64 a1, .int .i64 a2] rfl (by (try simp only [List.map_toArray, List.map_cons, List.map_nil]); first | done | rfl | (simp only [List.length_drop, List.length_take]; rfl)) ?_; (with_reducible refine (zone_Instants.calls k a0_0 a0_1 _ _ l0_2 a1 a2 t231 t234 _ ?side1 ?side2 A9.out).mono ?_); (case side1 => repeat (first | exact (Kd.C_below HR0_2.out HB.out) | (with_reducible refine Kd.C_alloc ?_ _) | (with_reducible refine Kd.C_drewN ?_ _) | (with_reducible refine Kd.C_drew ?_))); (case side2 => exact HC0_2.out); rintro e w17 ⟨v232, rfl, ho0, hb⟩; refine ⟨_, rfl, ?_⟩; have n0_ := Aside0.mk (Kd.R_lower ho0 (below_size (by repeat (first | (with_reducible first | exact HB.out | apply below_alloc | apply pw_below_drewN | apply below_drew1 | refine below_set ?_ GE229.out) | exact HB.out)))); have n1_ := Aside0.mk (blk_below (g := gb229) (o := .cells #[.string a0_0, .int .i64 a0_1, .slice A0_2 l0_2.length c0_2] 24 (0, 0)) (by (with_reducible repeat (first | refine blk_drewN ?_ _ | refine blk_drew ?_ | refine blk_alloc ?_ _)); exact BK229.out) hb); have n2_ := Aside0.mk (below_step (by repeat (first | (with_reducible first | exact HB.out | apply below_alloc | apply pw_below_drewN | apply below_drew1 | refine below_set ?_ GE229.out) | exact HB.out)) hb); clear BK229; clear HB; have HO233 := n0_; have BK229 := n1_; have HB := n2_; clear n0_ n1_ n2_; (try clear hb); (try clear hb2); (try clear hk); (try clear hi); (try clear ho0); have hcz18_0 : w17.cell? ⟨gb229, 0, none⟩ = some (.string a0_0) := (blk_cell BK229.out 0).trans rfl; have hcz18_1 : w17.cell? ⟨gb229, 1, none⟩ = some (.int .i64 a0_1) := (blk_cell BK229.out 1).trans rfl; have hcz18_2 : w17.cell? ⟨gb229, 2, none⟩ = some (.slice A0_2 l0_2.length c0_2) := (blk_cell BK229.out 2).trans rfl; have hfz18_0 := blk_frozen BK229.out 0; have hfz18_1 := blk_frozen BK229.out 1; have hfz18_2 := blk_frozen BK229.out 2) | ((with_reducible refine gate_callee (f := 24) rfl ?_); refine goesL_ (some 27) rfl rfl Try.func24 (by kernel_rfl) rfl #[.agg #[.string a0_0, .int .i64 a0_1, .slice A0_2 l0_2.length c0_2], .int .i64 a1, .int .i64 a2] rfl (by (try simp only [List.map_toArray, List.map_cons, List.map_nil]); first | done | rfl | (simp only [List.length_drop, List.length_take]; rfl)) ?_; (with_reducible refine (pairingref5_Instants.calls k a0_0 a0_1 _ _ l0_2 a1 a2 t235 t238 _ ?side1 ?side2 A10.out).mono ?_); (case side1 => repeat (first | exact (Kd.C_below HR0_2.out HB.out) | (with_reducible refine Kd.C_alloc ?_ _) | (with_reducible refine Kd.C_drewN ?_ _) | (with_reducible refine Kd.C_drew ?_))); (case side2 => exact HC0_2.out); rintro e w19 ⟨v236, rfl, ho0, hb⟩; refine ⟨_, rfl, ?_⟩; have n0_ := Aside0.mk (Kd.R_elder' (by (with_reducible repeat (first | apply Kd.R_alloc | apply Kd.R_drewN | apply Kd.R_drew)); exact HO233.out) (Kd.R_base ho0) hb); have n1_ := Aside0.mk (Kd.R_lower (Kd.R_new' ho0 (Kd.R_lt (by (with_reducible repeat (first | apply Kd.R_alloc | apply Kd.R_drewN | apply Kd.R_drew)); exact HO233.out))) (below_size (by repeat (first | (with_reducible first | exact HB.out | apply below_alloc | apply pw_below_drewN | apply below_drew1 | refine below_set ?_ GE229.out) | exact HB.out)))); have n2_ := Aside0.mk (blk_below (g := gb229) (o := .cells #[.string a0_0, .int .i64 a0_1, .slice A0_2 l0_2.length c0_2] 24 (0, 0)) (by (with_reducible repeat (first | refine blk_drewN ?_ _ | refine blk_drew ?_ | refine blk_alloc ?_ _)); exact BK229.out) hb); have n3_ := Aside0.mk (below_step (by repeat (first | (with_reducible first | exact HB.out | apply below_alloc | apply pw_below_drewN | apply below_drew1 | refine below_set ?_ GE229.out) | exact HB.out)) hb); clear HO233; clear BK229; clear HB; have HO233 := n0_; have HO237 := n1_; have BK229 := n2_; have HB := n3_; clear n0_ n1_ n2_ n3_; (try clear hb); (try clear hb2); (try clear hk); (try clear hi); (try clear ho0); obtain ⟨Ao20, co20, eo20⟩ := Kd.R_slice HO233.out; subst eo20; obtain ⟨Ao21, co21, eo21⟩ := Kd.R_slice HO237.out; subst eo21) | (go_at_call 25; (with_reducible refine (pairinglaw7_same.calls k _ _ t231 _ _ t235 true _ ?side1 ?side2 ?side3 ?side4 A12.out).mono ?_); (case side1 => repeat (first | exact (Kd.R_reads' HO233.out).2.2 | (with_reducible refine Kd.C_alloc ?_ _) | (with_reducible refine Kd.C_drewN ?_ _) | (with_reducible refine Kd.C_drew ?_))); (case side2 => exact (Kd.R_reads' HO233.out).2.1); (case side3 => repeat (first | exact (Kd.R_reads' HO237.out).2.2 | (with_reducible refine Kd.C_alloc ?_ _) | (with_reducible refine Kd.C_drewN ?_ _) | (with_reducible refine Kd.C_drew ?_))); (case side4 => exact (Kd.R_reads' HO237.out).2.1); rintro e w' ⟨rfl, ⟨nd, rfl⟩⟩) | (go_at_call 11; (with_reducible refine (pairinglaw7_awake.calls k  t240 _ A14.out).mono ?_); rintro e w22 ⟨rfl, hb⟩; have n0_ := Aside0.mk (Kd.R_below (by (with_reducible repeat (first | apply Kd.R_alloc | apply Kd.R_drewN | apply Kd.R_drew)); exact HO233.out) hb); have n1_ := Aside0.mk (Kd.R_below (by (with_reducible repeat (first | apply Kd.R_alloc | apply Kd.R_drewN | apply Kd.R_drew)); exact HO237.out) hb); have n2_ := Aside0.mk (blk_below (g := gb229) (o := .cells #[.string a0_0, .int .i64 a0_1, .slice A0_2 l0_2.length c0_2] 24 (0, 0)) (by (with_reducible repeat (first | refine blk_drewN ?_ _ | refine blk_drew ?_ | refine blk_alloc ?_ _)); exact BK229.out) hb); have n3_ := Aside0.mk (below_step (by repeat (first | (with_reducible first | exact HB.out | apply below_alloc | apply pw_below_drewN | apply below_drew1 | refine below_set ?_ GE229.out) | exact HB.out)) hb); clear HO233; clear HO237; clear BK229; clear HB; have HO233 := n0_; have HO237 := n1_; have BK229 := n2_; have HB := n3_; clear n0_ n1_ n2_ n3_; (try clear hb); (try clear hb2); (try clear hk); (try clear hi)))
        go_ret
        exact ⟨by first | rfl | (simp [errW_none, errW_some] <;> rfl) | (simp [*, errW_none, errW_some] <;> rfl), by repeat (first | (with_reducible first | exact HB.out | apply below_alloc | apply pw_below_drewN | apply below_drew1 | refine below_set ?_ GE229.out) | exact HB.out)⟩
      · replace c13 := Bool.eq_false_iff.mpr c13
        subst c13
        have H1 : (some false) = some r := by rw [if_neg (show ¬ (false = true) by decide)] at H; exact H
        clear H
        have H := H1
        clear H1
        obtain rfl := Option.some.inj H
        go_enter Try.func6, Try.ntmps6
        go_wp2_with (first | ((with_reducible refine gate_dst (N := 3) rfl ?_); refine box_event ?hg (N := 3) ?hd (cs := #[.string a0_0, .int .i64 a0_1, .slice A0_2 l0_2.length c0_2]) (t := 24) ?hr ?_; (case hd => rfl); (case hg => rfl); (case hr => first | (go_simp; done) | (go_simp; rfl)); intro gb229 hg w23 hbox hb; have n0_ := Aside0.mk (below_step (by repeat (first | (with_reducible first | exact HB.out | apply below_alloc | apply pw_below_drewN | apply below_drew1) | exact HB.out)) hb); have n1_ := Aside0.mk (hbox); have n2_ := Aside0.mk ((by rw [hg]; exact (below_size (by repeat (first | (with_reducible first | exact HB.out | apply below_alloc | apply pw_below_drewN | apply below_drew1) | exact HB.out))) : w.heap.size ≤ gb229)); have n3_ := Aside0.mk ((by rw [hg]; exact (below_size (by repeat (first | (with_reducible first | exact HB.out | apply below_alloc | apply pw_below_drewN | apply below_drew1) | exact HB.out))) : w.heap.size ≤ gb229)); clear HB; have HB := n0_; have BK229 := n1_; have GW229 := n2_; have GE229 := n3_; clear n0_ n1_ n2_ n3_; clear hb hbox hg; have hcz24_0 : w23.cell? ⟨gb229, 0, none⟩ = some (.string a0_0) := (blk_cell BK229.out 0).trans rfl; have hcz24_1 : w23.cell? ⟨gb229, 1, none⟩ = some (.int .i64 a0_1) := (blk_cell BK229.out 1).trans rfl; have hcz24_2 : w23.cell? ⟨gb229, 2, none⟩ = some (.slice A0_2 l0_2.length c0_2) := (blk_cell BK229.out 2).trans rfl; have hfz24_0 := blk_frozen BK229.out 0; have hfz24_1 := blk_frozen BK229.out 1; have hfz24_2 := blk_frozen BK229.out 2) | ((with_reducible refine gate_callee (f := 23) rfl ?_); refine goesL_ (some 20) rfl rfl Try.func23 (by kernel_rfl) rfl #[.agg #[.string a0_0, .int .i64 a0_1, .slice A0_2 l0_2.length c0_2], .int .i64 a1, .int .i64 a2] rfl (by (try simp only [List.map_toArray, List.map_cons, List.map_nil]); first | done | rfl | (simp only [List.length_drop, List.length_take]; rfl)) ?_; (with_reducible refine (zone_Instants.calls k a0_0 a0_1 _ _ l0_2 a1 a2 t231 t234 _ ?side1 ?side2 A9.out).mono ?_); (case side1 => repeat (first | exact (Kd.C_below HR0_2.out HB.out) | (with_reducible refine Kd.C_alloc ?_ _) | (with_reducible refine Kd.C_drewN ?_ _) | (with_reducible refine Kd.C_drew ?_))); (case side2 => exact HC0_2.out); rintro e w25 ⟨v232, rfl, ho0, hb⟩; refine ⟨_, rfl, ?_⟩; have n0_ := Aside0.mk (Kd.R_lower ho0 (below_size (by repeat (first | (with_reducible first | exact HB.out | apply below_alloc | apply pw_below_drewN | apply below_drew1 | refine below_set ?_ GE229.out) | exact HB.out)))); have n1_ := Aside0.mk (blk_below (g := gb229) (o := .cells #[.string a0_0, .int .i64 a0_1, .slice A0_2 l0_2.length c0_2] 24 (0, 0)) (by (with_reducible repeat (first | refine blk_drewN ?_ _ | refine blk_drew ?_ | refine blk_alloc ?_ _)); exact BK229.out) hb); have n2_ := Aside0.mk (below_step (by repeat (first | (with_reducible first | exact HB.out | apply below_alloc | apply pw_below_drewN | apply below_drew1 | refine below_set ?_ GE229.out) | exact HB.out)) hb); clear BK229; clear HB; have HO233 := n0_; have BK229 := n1_; have HB := n2_; clear n0_ n1_ n2_; (try clear hb); (try clear hb2); (try clear hk); (try clear hi); (try clear ho0); have hcz26_0 : w25.cell? ⟨gb229, 0, none⟩ = some (.string a0_0) := (blk_cell BK229.out 0).trans rfl; have hcz26_1 : w25.cell? ⟨gb229, 1, none⟩ = some (.int .i64 a0_1) := (blk_cell BK229.out 1).trans rfl; have hcz26_2 : w25.cell? ⟨gb229, 2, none⟩ = some (.slice A0_2 l0_2.length c0_2) := (blk_cell BK229.out 2).trans rfl; have hfz26_0 := blk_frozen BK229.out 0; have hfz26_1 := blk_frozen BK229.out 1; have hfz26_2 := blk_frozen BK229.out 2) | ((with_reducible refine gate_callee (f := 24) rfl ?_); refine goesL_ (some 27) rfl rfl Try.func24 (by kernel_rfl) rfl #[.agg #[.string a0_0, .int .i64 a0_1, .slice A0_2 l0_2.length c0_2], .int .i64 a1, .int .i64 a2] rfl (by (try simp only [List.map_toArray, List.map_cons, List.map_nil]); first | done | rfl | (simp only [List.length_drop, List.length_take]; rfl)) ?_; (with_reducible refine (pairingref5_Instants.calls k a0_0 a0_1 _ _ l0_2 a1 a2 t235 t238 _ ?side1 ?side2 A10.out).mono ?_); (case side1 => repeat (first | exact (Kd.C_below HR0_2.out HB.out) | (with_reducible refine Kd.C_alloc ?_ _) | (with_reducible refine Kd.C_drewN ?_ _) | (with_reducible refine Kd.C_drew ?_))); (case side2 => exact HC0_2.out); rintro e w27 ⟨v236, rfl, ho0, hb⟩; refine ⟨_, rfl, ?_⟩; have n0_ := Aside0.mk (Kd.R_elder' (by (with_reducible repeat (first | apply Kd.R_alloc | apply Kd.R_drewN | apply Kd.R_drew)); exact HO233.out) (Kd.R_base ho0) hb); have n1_ := Aside0.mk (Kd.R_lower (Kd.R_new' ho0 (Kd.R_lt (by (with_reducible repeat (first | apply Kd.R_alloc | apply Kd.R_drewN | apply Kd.R_drew)); exact HO233.out))) (below_size (by repeat (first | (with_reducible first | exact HB.out | apply below_alloc | apply pw_below_drewN | apply below_drew1 | refine below_set ?_ GE229.out) | exact HB.out)))); have n2_ := Aside0.mk (blk_below (g := gb229) (o := .cells #[.string a0_0, .int .i64 a0_1, .slice A0_2 l0_2.length c0_2] 24 (0, 0)) (by (with_reducible repeat (first | refine blk_drewN ?_ _ | refine blk_drew ?_ | refine blk_alloc ?_ _)); exact BK229.out) hb); have n3_ := Aside0.mk (below_step (by repeat (first | (with_reducible first | exact HB.out | apply below_alloc | apply pw_below_drewN | apply below_drew1 | refine below_set ?_ GE229.out) | exact HB.out)) hb); clear HO233; clear BK229; clear HB; have HO233 := n0_; have HO237 := n1_; have BK229 := n2_; have HB := n3_; clear n0_ n1_ n2_ n3_; (try clear hb); (try clear hb2); (try clear hk); (try clear hi); (try clear ho0); obtain ⟨Ao28, co28, eo28⟩ := Kd.R_slice HO233.out; subst eo28; obtain ⟨Ao29, co29, eo29⟩ := Kd.R_slice HO237.out; subst eo29) | (go_at_call 25; (with_reducible refine (pairinglaw7_same.calls k _ _ t231 _ _ t235 false _ ?side1 ?side2 ?side3 ?side4 A12.out).mono ?_); (case side1 => repeat (first | exact (Kd.R_reads' HO233.out).2.2 | (with_reducible refine Kd.C_alloc ?_ _) | (with_reducible refine Kd.C_drewN ?_ _) | (with_reducible refine Kd.C_drew ?_))); (case side2 => exact (Kd.R_reads' HO233.out).2.1); (case side3 => repeat (first | exact (Kd.R_reads' HO237.out).2.2 | (with_reducible refine Kd.C_alloc ?_ _) | (with_reducible refine Kd.C_drewN ?_ _) | (with_reducible refine Kd.C_drew ?_))); (case side4 => exact (Kd.R_reads' HO237.out).2.1); rintro e w' ⟨rfl, ⟨nd, rfl⟩⟩))
        go_ret
        exact ⟨by first | rfl | (simp [errW_none, errW_some] <;> rfl) | (simp [*, errW_none, errW_some] <;> rfl), by repeat (first | (with_reducible first | exact HB.out | apply below_alloc | apply pw_below_drewN | apply below_drew1 | refine below_set ?_ GE229.out) | exact HB.out)⟩
    · rw [if_neg c11] at H
      have c11b0 : (t234 == t238) = false := beq_eq_false_iff_ne.mpr c11
      have c11b1 : (t234 != t238) = true := bne_iff_ne.mpr c11
      obtain rfl := Option.some.inj H
      go_enter Try.func6, Try.ntmps6
      go_wp2_with (first | ((with_reducible refine gate_dst (N := 3) rfl ?_); refine box_event ?hg (N := 3) ?hd (cs := #[.string a0_0, .int .i64 a0_1, .slice A0_2 l0_2.length c0_2]) (t := 24) ?hr ?_; (case hd => rfl); (case hg => rfl); (case hr => first | (go_simp; done) | (go_simp; rfl)); intro gb229 hg w30 hbox hb; have n0_ := Aside0.mk (below_step (by repeat (first | (with_reducible first | exact HB.out | apply below_alloc | apply pw_below_drewN | apply below_drew1) | exact HB.out)) hb); have n1_ := Aside0.mk (hbox); have n2_ := Aside0.mk ((by rw [hg]; exact (below_size (by repeat (first | (with_reducible first | exact HB.out | apply below_alloc | apply pw_below_drewN | apply below_drew1) | exact HB.out))) : w.heap.size ≤ gb229)); have n3_ := Aside0.mk ((by rw [hg]; exact (below_size (by repeat (first | (with_reducible first | exact HB.out | apply below_alloc | apply pw_below_drewN | apply below_drew1) | exact HB.out))) : w.heap.size ≤ gb229)); clear HB; have HB := n0_; have BK229 := n1_; have GW229 := n2_; have GE229 := n3_; clear n0_ n1_ n2_ n3_; clear hb hbox hg; have hcz31_0 : w30.cell? ⟨gb229, 0, none⟩ = some (.string a0_0) := (blk_cell BK229.out 0).trans rfl; have hcz31_1 : w30.cell? ⟨gb229, 1, none⟩ = some (.int .i64 a0_1) := (blk_cell BK229.out 1).trans rfl; have hcz31_2 : w30.cell? ⟨gb229, 2, none⟩ = some (.slice A0_2 l0_2.length c0_2) := (blk_cell BK229.out 2).trans rfl; have hfz31_0 := blk_frozen BK229.out 0; have hfz31_1 := blk_frozen BK229.out 1; have hfz31_2 := blk_frozen BK229.out 2) | ((with_reducible refine gate_callee (f := 23) rfl ?_); refine goesL_ (some 20) rfl rfl Try.func23 (by kernel_rfl) rfl #[.agg #[.string a0_0, .int .i64 a0_1, .slice A0_2 l0_2.length c0_2], .int .i64 a1, .int .i64 a2] rfl (by (try simp only [List.map_toArray, List.map_cons, List.map_nil]); first | done | rfl | (simp only [List.length_drop, List.length_take]; rfl)) ?_; (with_reducible refine (zone_Instants.calls k a0_0 a0_1 _ _ l0_2 a1 a2 t231 t234 _ ?side1 ?side2 A9.out).mono ?_); (case side1 => repeat (first | exact (Kd.C_below HR0_2.out HB.out) | (with_reducible refine Kd.C_alloc ?_ _) | (with_reducible refine Kd.C_drewN ?_ _) | (with_reducible refine Kd.C_drew ?_))); (case side2 => exact HC0_2.out); rintro e w32 ⟨v232, rfl, ho0, hb⟩; refine ⟨_, rfl, ?_⟩; have n0_ := Aside0.mk (Kd.R_lower ho0 (below_size (by repeat (first | (with_reducible first | exact HB.out | apply below_alloc | apply pw_below_drewN | apply below_drew1 | refine below_set ?_ GE229.out) | exact HB.out)))); have n1_ := Aside0.mk (blk_below (g := gb229) (o := .cells #[.string a0_0, .int .i64 a0_1, .slice A0_2 l0_2.length c0_2] 24 (0, 0)) (by (with_reducible repeat (first | refine blk_drewN ?_ _ | refine blk_drew ?_ | refine blk_alloc ?_ _)); exact BK229.out) hb); have n2_ := Aside0.mk (below_step (by repeat (first | (with_reducible first | exact HB.out | apply below_alloc | apply pw_below_drewN | apply below_drew1 | refine below_set ?_ GE229.out) | exact HB.out)) hb); clear BK229; clear HB; have HO233 := n0_; have BK229 := n1_; have HB := n2_; clear n0_ n1_ n2_; (try clear hb); (try clear hb2); (try clear hk); (try clear hi); (try clear ho0); have hcz33_0 : w32.cell? ⟨gb229, 0, none⟩ = some (.string a0_0) := (blk_cell BK229.out 0).trans rfl; have hcz33_1 : w32.cell? ⟨gb229, 1, none⟩ = some (.int .i64 a0_1) := (blk_cell BK229.out 1).trans rfl; have hcz33_2 : w32.cell? ⟨gb229, 2, none⟩ = some (.slice A0_2 l0_2.length c0_2) := (blk_cell BK229.out 2).trans rfl; have hfz33_0 := blk_frozen BK229.out 0; have hfz33_1 := blk_frozen BK229.out 1; have hfz33_2 := blk_frozen BK229.out 2) | ((with_reducible refine gate_callee (f := 24) rfl ?_); refine goesL_ (some 27) rfl rfl Try.func24 (by kernel_rfl) rfl #[.agg #[.string a0_0, .int .i64 a0_1, .slice A0_2 l0_2.length c0_2], .int .i64 a1, .int .i64 a2] rfl (by (try simp only [List.map_toArray, List.map_cons, List.map_nil]); first | done | rfl | (simp only [List.length_drop, List.length_take]; rfl)) ?_; (with_reducible refine (pairingref5_Instants.calls k a0_0 a0_1 _ _ l0_2 a1 a2 t235 t238 _ ?side1 ?side2 A10.out).mono ?_); (case side1 => repeat (first | exact (Kd.C_below HR0_2.out HB.out) | (with_reducible refine Kd.C_alloc ?_ _) | (with_reducible refine Kd.C_drewN ?_ _) | (with_reducible refine Kd.C_drew ?_))); (case side2 => exact HC0_2.out); rintro e w34 ⟨v236, rfl, ho0, hb⟩; refine ⟨_, rfl, ?_⟩; have n0_ := Aside0.mk (Kd.R_elder' (by (with_reducible repeat (first | apply Kd.R_alloc | apply Kd.R_drewN | apply Kd.R_drew)); exact HO233.out) (Kd.R_base ho0) hb); have n1_ := Aside0.mk (Kd.R_lower (Kd.R_new' ho0 (Kd.R_lt (by (with_reducible repeat (first | apply Kd.R_alloc | apply Kd.R_drewN | apply Kd.R_drew)); exact HO233.out))) (below_size (by repeat (first | (with_reducible first | exact HB.out | apply below_alloc | apply pw_below_drewN | apply below_drew1 | refine below_set ?_ GE229.out) | exact HB.out)))); have n2_ := Aside0.mk (blk_below (g := gb229) (o := .cells #[.string a0_0, .int .i64 a0_1, .slice A0_2 l0_2.length c0_2] 24 (0, 0)) (by (with_reducible repeat (first | refine blk_drewN ?_ _ | refine blk_drew ?_ | refine blk_alloc ?_ _)); exact BK229.out) hb); have n3_ := Aside0.mk (below_step (by repeat (first | (with_reducible first | exact HB.out | apply below_alloc | apply pw_below_drewN | apply below_drew1 | refine below_set ?_ GE229.out) | exact HB.out)) hb); clear HO233; clear BK229; clear HB; have HO233 := n0_; have HO237 := n1_; have BK229 := n2_; have HB := n3_; clear n0_ n1_ n2_ n3_; (try clear hb); (try clear hb2); (try clear hk); (try clear hi); (try clear ho0)))
      go_ret
      exact ⟨by first | rfl | (simp [errW_none, errW_some] <;> rfl) | (simp [*, errW_none, errW_some] <;> rfl), by repeat (first | (with_reducible first | exact HB.out | apply below_alloc | apply pw_below_drewN | apply below_drew1 | refine below_set ?_ GE229.out) | exact HB.out)⟩

end Go.Proofs.Ytbgojnjpkflofaa.P
