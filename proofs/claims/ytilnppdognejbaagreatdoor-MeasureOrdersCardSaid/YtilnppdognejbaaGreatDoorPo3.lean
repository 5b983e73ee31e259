/- Walks: each Go function named below, called with what its Lean function answers, returns just that; and the words of the print that they use (wip/xprint.py, wip/shrink.py, wip/prune.py over the kit's print; some by hand). Conditions: those in each theorem. -/
import Derived.Test.YtilnppdognejbaaGreatDoorPo1
import Derived.Test.YtilnppdognejbaaGreatDoorPo2
namespace Go.Proofs.YtilnppdognejbaaGreatDoor.P
open Go.RowKit Go.Proofs.YtilnppdognejbaaGreatDoorW.PrintWords Go.Proofs.YtilnppdognejbaaGreatDoorW.PrintLast Go.Proofs.YtilnppdognejbaaGreatDoorW.PrintMore
attribute [local go_sem] max2_int min2_int max_two min_two max_three min_three max_four min_four   -- for this text's walks alone
set_option linter.unusedVariables false
set_option linter.unusedSimpArgs false
mutual
def timetable_Validate.j0 : Nat → Bool → List (S83) → List (S86) → List (S73) → Option (Int)
 | 0, _, _, _, _ => none
 | k + 1, x26, x153000, x153001, x153002 => if x26 = true then (some 10) else (timetable_Validate.l0 k x153000 (x153000.length : Int) 0 x153000 x153001 x153002)
def timetable_Validate.l0 : Nat → List (S83) → Int → Int → List (S83) → List (S86) → List (S73) → Option (Int)
 | 0, _, _, _, _, _, _ => none
 | k + 1, x28, x29, x30, x153000, x153001, x153002 => if x30 < x29 then (if 0 ≤ x30 then (if x30 < (x28.length : Int) then ((zone_Validate.f k ((rd_T83 x28 x30).f0) ((rd_T83 x28 x30).f1) ((rd_T83 x28 x30).f2)).bind fun t155 => (if t155 = 0 then ((timetable_zoneIndex.f k x153000 ((rd_T83 x28 x30).f0)).bind fun t156 => (if t156 < x30 then (some 7) else (timetable_Validate.l0 k x28 x29 (wrap64 (x30 + 1)) x153000 x153001 x153002))) else (some t155))) else (none)) else (none)) else (timetable_Validate.l1 k (x153001.length : Int) 0 x153000 x153001 x153002)
def timetable_Validate.l1 : Nat → Int → Int → List (S83) → List (S86) → List (S73) → Option (Int)
 | 0, _, _, _, _, _ => none
 | k + 1, x50, x51, x153000, x153001, x153002 => if x51 < x50 then ((timetable_checkAirport.f k x153000 x153001 x153002 x51).bind fun t157 => (if t157 = 0 then (timetable_Validate.l1 k x50 (wrap64 (x51 + 1)) x153000 x153001 x153002) else (some t157))) else (timetable_Validate.l2 k x153002 (x153002.length : Int) 0 x153000 x153001 x153002)
def timetable_Validate.l2 : Nat → List (S73) → Int → Int → List (S83) → List (S86) → List (S73) → Option (Int)
 | 0, _, _, _, _, _, _ => none
 | k + 1, x62, x63, x64, x153000, x153001, x153002 => if x64 < x63 then (if 0 ≤ x64 then (if x64 < (x62.length : Int) then ((timetable_checkFlight.f k x153000 x153001 x153002 ((rd_T73 x62 x64).f0) ((rd_T73 x62 x64).f1) ((rd_T73 x62 x64).f2) ((rd_T73 x62 x64).f3) ((rd_T73 x62 x64).f4) ((rd_T73 x62 x64).f5) ((rd_T73 x62 x64).f6.f0) ((rd_T73 x62 x64).f6.f1) ((rd_T73 x62 x64).f6.f2)).bind fun t160 => (if t160 = 0 then (if x64 > 0 then (if 0 ≤ (wrap64 (x64 - 1)) then (if (wrap64 (x64 - 1)) < (x153002.length : Int) then ((timetable_after.f ((rd_T73 x62 x64).f0) ((rd_T73 x62 x64).f1) ((rd_T73 x62 x64).f2) ((rd_T73 x62 x64).f3) ((rd_T73 x62 x64).f4) ((rd_T73 x62 x64).f5) ((rd_T73 x62 x64).f6.f0) ((rd_T73 x62 x64).f6.f1) ((rd_T73 x62 x64).f6.f2) ((rd_T73 x153002 (wrap64 (x64 - 1))).f0) ((rd_T73 x153002 (wrap64 (x64 - 1))).f1) ((rd_T73 x153002 (wrap64 (x64 - 1))).f2) ((rd_T73 x153002 (wrap64 (x64 - 1))).f3) ((rd_T73 x153002 (wrap64 (x64 - 1))).f4) ((rd_T73 x153002 (wrap64 (x64 - 1))).f5) ((rd_T73 x153002 (wrap64 (x64 - 1))).f6.f0) ((rd_T73 x153002 (wrap64 (x64 - 1))).f6.f1) ((rd_T73 x153002 (wrap64 (x64 - 1))).f6.f2)).bind fun t162 => (if t162 = true then (timetable_Validate.l2 k x62 x63 (wrap64 (x64 + 1)) x153000 x153001 x153002) else (some 8))) else (none)) else (none)) else (timetable_Validate.l2 k x62 x63 (wrap64 (x64 + 1)) x153000 x153001 x153002)) else (some t160))) else (none)) else (none)) else (some 0)
end
def timetable_Validate.f (k : Nat) (l0_0 : List (S83)) (l0_1 : List (S86)) (l0_2 : List (S73)) : Option (Int) := if (l0_0.length : Int) > 16 then (timetable_Validate.j0 k true l0_0 l0_1 l0_2) else (if (l0_1.length : Int) > 64 then (timetable_Validate.j0 k true l0_0 l0_1 l0_2) else (timetable_Validate.j0 k (decide ((l0_2.length : Int) > 200)) l0_0 l0_1 l0_2))
def timetable_Validate.T25 : Bool × List (List Nat × List Nat) := (true, [([], []), ([0], [0]), ([1], [1]), ([2], [2]), ([2], [2]), ([4, 2], [2, 4]), ([2], [2]), ([6, 2], [2, 6]), ([5, 7, 2], [2, 5, 7]), ([8, 2], [2, 8]), ([3, 9, 2, 2], [2, 3, 9]), ([10, 2], [2, 10]), ([2, 11], [2, 11])])
def timetable_Validate.B25 : List Nat := [0, 1, 3, 7, 7, 23, 7, 71, 247, 503, 1023, 2047, 4095]
theorem timetable_Validate.tab25 : rtab .any (opsOf Tryz.f51 25) = timetable_Validate.T25 := by kernel_rfl
theorem timetable_Validate.bits25 : waitsOk timetable_Validate.T25.2 timetable_Validate.B25 = true := by kernel_rfl
set_option maxHeartbeats 8000000 in
set_option maxRecDepth 100000 in
theorem timetable_Validate.calls (k : Nat) (A0_0 : Option Addr) (c0_0 : Nat) (l0_0 : List (S83)) (A0_1 : Option Addr) (c0_1 : Nat) (l0_1 : List (S86)) (A0_2 : Option Addr) (c0_2 : Nat) (l0_2 : List (S73)) (r : Int) (w : World) (hr0_0 : Kd.C k83 w A0_0 l0_0.length l0_0) (hc0_0 : l0_0.length ≤ c0_0) (hr0_1 : Kd.C k86 w A0_1 l0_1.length l0_1) (hc0_1 : l0_1.length ≤ c0_1) (hr0_2 : Kd.C k73 w A0_2 l0_2.length l0_2) (hc0_2 : l0_2.length ≤ c0_2) (h : timetable_Validate.f k l0_0 l0_1 l0_2 = some r) :
  Calls Tryz.prog 51 #[.agg #[.slice A0_0 l0_0.length c0_0, .slice A0_1 l0_1.length c0_1, .slice A0_2 l0_2.length c0_2]] w fun e w' => e = .returned (.int .i64 r) ∧ Below w.heap.size w w' := by
 have hu32 := Tryz.underlying32
 have hu83 := Tryz.underlying83
 have hu73 := Tryz.underlying73
 have HR0_0 := Aside0.mk hr0_0
 have HC0_0 := Aside0.mk hc0_0
 clear hr0_0 hc0_0
 have HR0_1 := Aside0.mk hr0_1
 have HC0_1 := Aside0.mk hc0_1
 clear hr0_1 hc0_1
 have HR0_2 := Aside0.mk hr0_2
 have HC0_2 := Aside0.mk hc0_2
 clear hr0_2 hc0_2
 have HB := Aside0.mk (Below.refl w.heap.size w)
 have H : (if (l0_0.length : Int) > 16 then (timetable_Validate.j0 k true l0_0 l0_1 l0_2) else (if (l0_1.length : Int) > 64 then (timetable_Validate.j0 k true l0_0 l0_1 l0_2) else (timetable_Validate.j0 k (decide ((l0_2.length : Int) > 200)) l0_0 l0_1 l0_2))) = some r := h
 clear h
 have HC2 := Aside0.mk H
 clear H
 go_enter Tryz.func51, Tryz.ntmps51
 go_upto_region 1 with (first | ((with_reducible refine gate_dst (N := 1) rfl ?_); (try (refine gate_guard (by rfl) ?_; dsimp only)); refine box_event ?hg (N := 1) ?hd (cs := #[.slice A0_0 l0_0.length c0_0, .slice A0_1 l0_1.length c0_1, .slice A0_2 l0_2.length c0_2]) (t := 32) ?hr ?_; (case hd => rfl); (case hg => rfl); (case hr => first | (go_simp; done) | (go_simp; rfl)); intro gb152 hg w3 hbox hb; have BK152 := Aside0.mk hbox; have GE152 := Aside0.mk ((by rw [hg]; exact (below_size hbk) : w.heap.size ≤ gb152)); replace HB := Aside0.mk (below_step hbk hb); clear hb hbox hg))
 (try simp only [Act.put, List.setIfInBounds_toArray, List.set_cons_zero, List.set_cons_succ])
 go_cut [26] (fun v26 wc => ∃ (kq : Nat) (x26_1 : Bool), v26 = .bool x26_1 ∧ Aside0 (timetable_Validate.j0 kq x26_1 l0_0 l0_1 l0_2 = some r) ∧ Aside0 (kq ≤ k) ∧ Aside0 (wc.heap[gb152]? = some (.cells #[(.slice A0_0 l0_0.length c0_0), (.slice A0_1 l0_1.length c0_1), (.slice A0_2 l0_2.length c0_2)] 32 (0, 0))) ∧ Aside0 (Below w.heap.size w wc))
 case first =>
  have H := HC2.out
  clear HC2
  by_cases c4 : (l0_0.length : Int) > 16
  ·rw [if_pos c4] at H
   have c4b0 : decide (16 < (l0_0.length : Int)) = true := decide_eq_true c4
   have c4b1 : decide (16 < l0_0.length) = true := decide_eq_true (by omega)
   clear c4
   (first | rw [c4b0] | (simp only [i64_w, i32_w]; rw [c4b0]) | skip)
   have H' := Aside0.mk H
   clear H
   obtain ⟨hcz5_0, hcz5_1, hcz5_2⟩ := blk_cs3 BK152.out
   obtain ⟨hfz5_0, hfz5_1, hfz5_2⟩ := blk_fs3 BK152.out
   go_wp2
   go_meet
   case rel => exact ⟨_, (true), (by first | rfl | (simp; done) | (simp [*]; done)), H', ⟨by first | omega | exact Nat.le_refl _⟩, ⟨by (with_reducible repeat (first | refine blk_drewN ?_ _ | refine blk_drew ?_ | refine blk_alloc ?_ _)); exact BK152.out⟩, ⟨hbk⟩⟩
  ·rw [if_neg c4] at H
   have c4b0 : decide (16 < (l0_0.length : Int)) = false := decide_eq_false c4
   have c4b1 : decide (16 < l0_0.length) = false := decide_eq_false (by omega)
   clear c4
   (first | rw [c4b0] | (simp only [i64_w, i32_w]; rw [c4b0]) | skip)
   by_cases c6 : (l0_1.length : Int) > 64
   ·rw [if_pos c6] at H
    have c6b0 : decide (64 < (l0_1.length : Int)) = true := decide_eq_true c6
    have c6b1 : decide (64 < l0_1.length) = true := decide_eq_true (by omega)
    clear c6
    have H' := Aside0.mk H
    clear H
    obtain ⟨hcz7_0, hcz7_1, hcz7_2⟩ := blk_cs3 BK152.out
    obtain ⟨hfz7_0, hfz7_1, hfz7_2⟩ := blk_fs3 BK152.out
    go_wp2
    go_meet
    case rel => exact ⟨_, (true), (by first | rfl | (simp; done) | (simp [*]; done)), H', ⟨by first | omega | exact Nat.le_refl _⟩, ⟨by (with_reducible repeat (first | refine blk_drewN ?_ _ | refine blk_drew ?_ | refine blk_alloc ?_ _)); exact BK152.out⟩, ⟨hbk⟩⟩
   ·rw [if_neg c6] at H
    have c6b0 : decide (64 < (l0_1.length : Int)) = false := decide_eq_false c6
    have c6b1 : decide (64 < l0_1.length) = false := decide_eq_false (by omega)
    clear c6
    have H' := Aside0.mk H
    clear H
    obtain ⟨hcz8_0, hcz8_1, hcz8_2⟩ := blk_cs3 BK152.out
    obtain ⟨hfz8_0, hfz8_1, hfz8_2⟩ := blk_fs3 BK152.out
    go_wp2
    go_meet
    case rel => exact ⟨_, (decide ((l0_2.length : Int) > 200)), (by first | rfl | (simp; done) | (simp [*]; done)), H', ⟨by first | omega | exact Nat.le_refl _⟩, ⟨by (with_reducible repeat (first | refine blk_drewN ?_ _ | refine blk_drew ?_ | refine blk_alloc ?_ _)); exact BK152.out⟩, ⟨hbk⟩⟩
 case rest =>
  clear HC2
  try clear p2
  try clear c4
  try clear c4b0
  try clear c4b1
  try clear c5
  try clear c6
  try clear c6b0
  try clear c6b1
  try clear hcz5_0
  try clear hcz5_1
  try clear hcz5_2
  try clear hcz7_0
  try clear hcz7_1
  try clear hcz7_2
  try clear hcz8_0
  try clear hcz8_1
  try clear hcz8_2
  try clear hfz5_0
  try clear hfz5_1
  try clear hfz5_2
  try clear hfz7_0
  try clear hfz7_1
  try clear hfz7_2
  try clear hfz8_0
  try clear hfz8_1
  try clear hfz8_2
  obtain ⟨kq, x26_1, rfl, HA, HJ1, BK152, HB⟩ := hcut
  cases kq with
  | zero => exact absurd HA.out (by simp [timetable_Validate.j0])
  | succ kj1 =>
   have H := HA.out
   clear HA
   simp only [timetable_Validate.j0] at H
   by_cases c9 : x26_1 = true
   ·subst c9
    have H1 : (some 10) = some r := by rw [if_pos rfl] at H; exact H
    clear H
    have H := H1
    clear H1
    obtain rfl := Option.some.inj H
    go_wp2
    go_ret
    exact ⟨hrf, hbk⟩
   ·replace c9 := Bool.eq_false_iff.mpr c9
    subst c9
    have H1 : (timetable_Validate.l0 kj1 l0_0 (l0_0.length : Int) 0 l0_0 l0_1 l0_2) = some r := by rw [if_neg (show ¬ (false = true) by decide)] at H; exact H
    clear H
    have H := H1
    clear H1
    have H' := Aside0.mk H
    clear H
    obtain ⟨hcz10_0, hcz10_1, hcz10_2⟩ := blk_cs3 BK152.out
    obtain ⟨hfz10_0, hfz10_1, hfz10_2⟩ := blk_fs3 BK152.out
    go_wp2
    go_loopg [30] kj1 (fun kq v30 w' => ∃ (x30_2 : Int), v30 = .int .i64 x30_2 ∧ Aside0 (timetable_Validate.l0 kq l0_0 (l0_0.length : Int) x30_2 l0_0 l0_1 l0_2 = some r) ∧ Aside0 (kq ≤ kj1) ∧ Aside0 (w'.heap[gb152]? = some (.cells #[(.slice A0_0 l0_0.length c0_0), (.slice A0_1 l0_1.length c0_1), (.slice A0_2 l0_2.length c0_2)] 32 (0, 0))) ∧ Aside0 (Below w.heap.size w w'))
    case atStart => exact ⟨(0), (by first | rfl | (simp; done) | (simp [*]; done)), H', ⟨Nat.le_refl _⟩, ⟨by (with_reducible repeat (first | refine blk_drewN ?_ _ | refine blk_drew ?_ | refine blk_alloc ?_ _)); exact BK152.out⟩, ⟨hbk⟩⟩
    case round =>
     clear H'
     try clear p2
     try clear c4
     try clear c4b0
     try clear c4b1
     try clear c5
     try clear c6
     try clear c6b0
     try clear c6b1
     try clear c9
     try clear hcz10_0
     try clear hcz10_1
     try clear hcz10_2
     try clear hcz5_0
     try clear hcz5_1
     try clear hcz5_2
     try clear hcz7_0
     try clear hcz7_1
     try clear hcz7_2
     try clear hcz8_0
     try clear hcz8_1
     try clear hcz8_2
     try clear hfz10_0
     try clear hfz10_1
     try clear hfz10_2
     try clear hfz5_0
     try clear hfz5_1
     try clear hfz5_2
     try clear hfz7_0
     try clear hfz7_1
     try clear hfz7_2
     try clear hfz8_0
     try clear hfz8_1
     try clear hfz8_2
     try clear p2
     obtain ⟨x30_2, rfl, HA, HK2, BK152, HB⟩ := hrel
     cases gk with
     | zero => exact absurd HA.out (by simp [timetable_Validate.l0])
     | succ k2 =>
      have H := HA.out
      clear HA
      simp only [timetable_Validate.l0] at H
      by_cases c11 : x30_2 < (l0_0.length : Int)
      ·rw [if_pos c11] at H
       have c11b0 : decide (x30_2 < (l0_0.length : Int)) = true := decide_eq_true c11
       clear c11
       by_cases c12 : 0 ≤ x30_2
       ·rw [if_pos c12] at H
        have c12b0 : decide (0 ≤ x30_2) = true := decide_eq_true c12
        clear c12
        by_cases c13 : x30_2 < (l0_0.length : Int)
        ·rw [if_pos c13] at H
         have c13b0 : decide (x30_2 < (l0_0.length : Int)) = true := decide_eq_true c13
         clear c13
         replace H := Option.bind_eq_some_iff.mp H
         obtain ⟨t155, A140, H⟩ := H
         replace H : (if t155 = 0 then ((timetable_zoneIndex.f k2 l0_0 ((rd_T83 l0_0 x30_2).f0)).bind fun t156 => (if t156 < x30_2 then (some 7) else (timetable_Validate.l0 k2 l0_0 (l0_0.length : Int) (wrap64 (x30_2 + 1)) l0_0 l0_1 l0_2))) else (some t155)) = some r := H
         have A14 := Aside0.mk A140
         clear A140
         by_cases c15 : t155 = 0
         ·rw [if_pos c15] at H
          have c15b0 : (t155 == 0) = true := beq_iff_eq.mpr c15
          have c15b1 : (t155 != 0) = false := bne_eq_false_iff_eq.mpr c15
          clear c15
          replace H := Option.bind_eq_some_iff.mp H
          obtain ⟨t156, A160, H⟩ := H
          replace H : (if t156 < x30_2 then (some 7) else (timetable_Validate.l0 k2 l0_0 (l0_0.length : Int) (wrap64 (x30_2 + 1)) l0_0 l0_1 l0_2)) = some r := H
          have A16 := Aside0.mk A160
          clear A160
          by_cases c17 : t156 < x30_2
          ·rw [if_pos c17] at H
           have c17b0 : decide (t156 < x30_2) = true := decide_eq_true c17
           clear c17
           obtain rfl := Option.some.inj H
           have p153 : 0 ≤ (x30_2 : Int) := of_decide_eq_true (by first | (with_reducible assumption) | assumption)
           have q153 : x30_2 < (l0_0.length : Int) := of_decide_eq_true (by first | (with_reducible assumption) | assumption)
           obtain ⟨ad153, A153_2, c153_2, e153, hx153_0, hx153_1, hx153_2, hl153_2, hi153_2⟩ := at_T83 HR0_0.out x30_2 p153 q153
           cases e153
           replace hx153_0 := (HB.out.cell (World.block_lt_of_cell? w _ hx153_0)).trans hx153_0
           replace hx153_1 := (HB.out.cell (World.block_lt_of_cell? w _ hx153_1)).trans hx153_1
           replace hx153_2 := (HB.out.cell (World.block_lt_of_cell? w _ hx153_2)).trans hx153_2
           have HR153_2 := Aside0.mk hi153_2
           have HC153_2 := Aside0.mk hl153_2
           clear hi153_2 hl153_2
           replace p153 := eq_true p153
           replace q153 := eq_true q153
           go_wp2_with (first | ((with_reducible refine gate_dst (N := 4) rfl ?_); (try (refine gate_guard (by rfl) ?_; dsimp only)); refine box_event ?hg (N := 4) ?hd (cs := #[.string (⟨#[]⟩ : ByteArray), .int .i64 0, .slice none 0 0]) (t := 83) ?hr ?_; (case hd => rfl); (case hg => rfl); (case hr => first | (go_simp; done) | (go_simp; rfl)); intro gb154 hg w18 hbox hb; have BK154 := Aside0.mk hbox; have GE154 := Aside0.mk ((by rw [hg]; exact (below_size hbk) : w.heap.size ≤ gb154)); have NB152_154 := Aside0.mk ((by rw [hg]; exact Nat.ne_of_lt (blk_ltB BK152.out) : gb152 ≠ gb154)); have NB154_152 := Aside0.mk ((by rw [hg]; exact Nat.ne_of_gt (blk_ltB BK152.out) : gb154 ≠ gb152)); replace BK152 := Aside0.mk (blk_belowB BK152.out hb); replace HB := Aside0.mk (below_step hbk hb); clear hb hbox hg; have hnb19 := NB154_152.out; have hnc19 := NB152_154.out; obtain ⟨hcz20_0, hcz20_1, hcz20_2⟩ := blk_cs3 BK154.out; obtain ⟨hfz20_0, hfz20_1, hfz20_2⟩ := blk_fs3 BK154.out) | ((with_reducible refine gate_callee (f := 72) rfl ?_); refine goesL_ (some 36) rfl rfl Tryz.func72 (by kernel_rfl) rfl #[.agg #[.string ((rd_T83 l0_0 x30_2).f0), .int .i64 ((rd_T83 l0_0 x30_2).f1), .slice A153_2 ((rd_T83 l0_0 x30_2).f2).length c153_2]] rfl hgl ?_; (with_reducible refine (zone_Validate.calls k2 ((rd_T83 l0_0 x30_2).f0) ((rd_T83 l0_0 x30_2).f1) _ _ ((rd_T83 l0_0 x30_2).f2) t155 _ ?side1 ?side2 A14.out).mono ?_); (case side1 => exact Kd.C_below HR153_2.out hbk); (case side2 => exact HC153_2.out); rintro e w21 ⟨rfl, hb⟩; refine ⟨_, rfl, ?_⟩; have n0_ := Aside0.mk (blk_belowB BK152.out hb); have n1_ := Aside0.mk (blk_below (g := gb154) (o := .cells #[.string ((rd_T83 l0_0 x30_2).f0), .int .i64 ((rd_T83 l0_0 x30_2).f1), .slice A153_2 ((rd_T83 l0_0 x30_2).f2).length c153_2] 83 (0, 0)) (by (with_reducible repeat (first | refine blk_drewN ?_ _ | refine blk_drew ?_ | refine blk_alloc ?_ _)); refine blk_put (cs := #[.string ((rd_T83 l0_0 x30_2).f0), .int .i64 ((rd_T83 l0_0 x30_2).f1), .slice none 0 0]) ?_ 2 _ rfl; refine blk_put (cs := #[.string ((rd_T83 l0_0 x30_2).f0), .int .i64 0, .slice none 0 0]) ?_ 1 _ rfl; refine blk_put (cs := #[.string (⟨#[]⟩ : ByteArray), .int .i64 0, .slice none 0 0]) ?_ 0 _ rfl; (with_reducible repeat (first | refine blk_drewN ?_ _ | refine blk_drew ?_ | refine blk_alloc ?_ _)); exact BK154.out) hb); have n2_ := Aside0.mk (below_step hbk hb); clear BK152; clear BK154; clear HB; have BK152 := n0_; have BK154 := n1_; have HB := n2_; clear n0_ n1_ n2_; (try clear hb); (try clear hb2); (try clear hk); (try clear hi); obtain ⟨hcz22_0, hcz22_1, hcz22_2⟩ := blk_cs3 BK152.out; obtain ⟨hfz22_0, hfz22_1, hfz22_2⟩ := blk_fs3 BK152.out; obtain ⟨hcz23_0, hcz23_1, hcz23_2⟩ := blk_cs3 BK154.out; obtain ⟨hfz23_0, hfz23_1, hfz23_2⟩ := blk_fs3 BK154.out) | ((with_reducible refine gate_callee (f := 73) rfl ?_); refine goesL_ (some 44) rfl rfl Tryz.func73 (by kernel_rfl) rfl #[.slice (some ad153) l0_0.length c0_0, .string ((rd_T83 l0_0 x30_2).f0)] rfl hgl ?_; (with_reducible refine (timetable_zoneIndex.calls k2 _ _ l0_0 ((rd_T83 l0_0 x30_2).f0) t156 _ ?side1 ?side2 A16.out).mono ?_); (case side1 => exact Kd.C_below HR0_0.out hbk); (case side2 => exact HC0_0.out); rintro e w24 ⟨rfl, hb⟩; refine ⟨_, rfl, ?_⟩; have n0_ := Aside0.mk (blk_belowB BK152.out hb); have n1_ := Aside0.mk (blk_belowB BK154.out hb); have n2_ := Aside0.mk (below_step hbk hb); clear BK152; clear BK154; clear HB; have BK152 := n0_; have BK154 := n1_; have HB := n2_; clear n0_ n1_ n2_; (try clear hb); (try clear hb2); (try clear hk); (try clear hi)))
           go_ret
           exact ⟨hrf, hbk⟩
          ·rw [if_neg c17] at H
           have c17b0 : decide (t156 < x30_2) = false := decide_eq_false c17
           clear c17
           have H' := Aside0.mk H
           clear H
           have p153 : 0 ≤ (x30_2 : Int) := of_decide_eq_true (by first | (with_reducible assumption) | assumption)
           have q153 : x30_2 < (l0_0.length : Int) := of_decide_eq_true (by first | (with_reducible assumption) | assumption)
           obtain ⟨ad153, A153_2, c153_2, e153, hx153_0, hx153_1, hx153_2, hl153_2, hi153_2⟩ := at_T83 HR0_0.out x30_2 p153 q153
           cases e153
           replace hx153_0 := (HB.out.cell (World.block_lt_of_cell? w _ hx153_0)).trans hx153_0
           replace hx153_1 := (HB.out.cell (World.block_lt_of_cell? w _ hx153_1)).trans hx153_1
           replace hx153_2 := (HB.out.cell (World.block_lt_of_cell? w _ hx153_2)).trans hx153_2
           have HR153_2 := Aside0.mk hi153_2
           have HC153_2 := Aside0.mk hl153_2
           clear hi153_2 hl153_2
           replace p153 := eq_true p153
           replace q153 := eq_true q153
           go_wp2_with (first | ((with_reducible refine gate_dst (N := 4) rfl ?_); (try (refine gate_guard (by rfl) ?_; dsimp only)); refine box_event ?hg (N := 4) ?hd (cs := #[.string (⟨#[]⟩ : ByteArray), .int .i64 0, .slice none 0 0]) (t := 83) ?hr ?_; (case hd => rfl); (case hg => rfl); (case hr => first | (go_simp; done) | (go_simp; rfl)); intro gb154 hg w25 hbox hb; have BK154 := Aside0.mk hbox; have GE154 := Aside0.mk ((by rw [hg]; exact (below_size hbk) : w.heap.size ≤ gb154)); have NB152_154 := Aside0.mk ((by rw [hg]; exact Nat.ne_of_lt (blk_ltB BK152.out) : gb152 ≠ gb154)); have NB154_152 := Aside0.mk ((by rw [hg]; exact Nat.ne_of_gt (blk_ltB BK152.out) : gb154 ≠ gb152)); replace BK152 := Aside0.mk (blk_belowB BK152.out hb); replace HB := Aside0.mk (below_step hbk hb); clear hb hbox hg; have hnb26 := NB154_152.out; have hnc26 := NB152_154.out; obtain ⟨hcz27_0, hcz27_1, hcz27_2⟩ := blk_cs3 BK154.out; obtain ⟨hfz27_0, hfz27_1, hfz27_2⟩ := blk_fs3 BK154.out) | ((with_reducible refine gate_callee (f := 72) rfl ?_); refine goesL_ (some 36) rfl rfl Tryz.func72 (by kernel_rfl) rfl #[.agg #[.string ((rd_T83 l0_0 x30_2).f0), .int .i64 ((rd_T83 l0_0 x30_2).f1), .slice A153_2 ((rd_T83 l0_0 x30_2).f2).length c153_2]] rfl hgl ?_; (with_reducible refine (zone_Validate.calls k2 ((rd_T83 l0_0 x30_2).f0) ((rd_T83 l0_0 x30_2).f1) _ _ ((rd_T83 l0_0 x30_2).f2) t155 _ ?side1 ?side2 A14.out).mono ?_); (case side1 => exact Kd.C_below HR153_2.out hbk); (case side2 => exact HC153_2.out); rintro e w28 ⟨rfl, hb⟩; refine ⟨_, rfl, ?_⟩; have n0_ := Aside0.mk (blk_belowB BK152.out hb); have n1_ := Aside0.mk (blk_below (g := gb154) (o := .cells #[.string ((rd_T83 l0_0 x30_2).f0), .int .i64 ((rd_T83 l0_0 x30_2).f1), .slice A153_2 ((rd_T83 l0_0 x30_2).f2).length c153_2] 83 (0, 0)) (by (with_reducible repeat (first | refine blk_drewN ?_ _ | refine blk_drew ?_ | refine blk_alloc ?_ _)); refine blk_put (cs := #[.string ((rd_T83 l0_0 x30_2).f0), .int .i64 ((rd_T83 l0_0 x30_2).f1), .slice none 0 0]) ?_ 2 _ rfl; refine blk_put (cs := #[.string ((rd_T83 l0_0 x30_2).f0), .int .i64 0, .slice none 0 0]) ?_ 1 _ rfl; refine blk_put (cs := #[.string (⟨#[]⟩ : ByteArray), .int .i64 0, .slice none 0 0]) ?_ 0 _ rfl; (with_reducible repeat (first | refine blk_drewN ?_ _ | refine blk_drew ?_ | refine blk_alloc ?_ _)); exact BK154.out) hb); have n2_ := Aside0.mk (below_step hbk hb); clear BK152; clear BK154; clear HB; have BK152 := n0_; have BK154 := n1_; have HB := n2_; clear n0_ n1_ n2_; (try clear hb); (try clear hb2); (try clear hk); (try clear hi); obtain ⟨hcz29_0, hcz29_1, hcz29_2⟩ := blk_cs3 BK152.out; obtain ⟨hfz29_0, hfz29_1, hfz29_2⟩ := blk_fs3 BK152.out; obtain ⟨hcz30_0, hcz30_1, hcz30_2⟩ := blk_cs3 BK154.out; obtain ⟨hfz30_0, hfz30_1, hfz30_2⟩ := blk_fs3 BK154.out) | ((with_reducible refine gate_callee (f := 73) rfl ?_); refine goesL_ (some 44) rfl rfl Tryz.func73 (by kernel_rfl) rfl #[.slice (some ad153) l0_0.length c0_0, .string ((rd_T83 l0_0 x30_2).f0)] rfl hgl ?_; (with_reducible refine (timetable_zoneIndex.calls k2 _ _ l0_0 ((rd_T83 l0_0 x30_2).f0) t156 _ ?side1 ?side2 A16.out).mono ?_); (case side1 => exact Kd.C_below HR0_0.out hbk); (case side2 => exact HC0_0.out); rintro e w31 ⟨rfl, hb⟩; refine ⟨_, rfl, ?_⟩; have n0_ := Aside0.mk (blk_belowB BK152.out hb); have n1_ := Aside0.mk (blk_belowB BK154.out hb); have n2_ := Aside0.mk (below_step hbk hb); clear BK152; clear BK154; clear HB; have BK152 := n0_; have BK154 := n1_; have HB := n2_; clear n0_ n1_ n2_; (try clear hb); (try clear hb2); (try clear hk); (try clear hi)))
           go_roundg k2
           case measure => have := HJ1.out; have := HK2.out; omega
           case rel => exact ⟨(wrap64 (x30_2 + 1)), (by first | rfl | (simp; done) | (simp [*]; done)), H', ⟨by have := HJ1.out; have := HK2.out; omega⟩, ⟨by (with_reducible repeat (first | refine blk_drewN ?_ _ | refine blk_drew ?_ | refine blk_alloc ?_ _)); exact BK152.out⟩, ⟨hbk⟩⟩
         ·rw [if_neg c15] at H
          have c15b0 : (t155 == 0) = false := beq_eq_false_iff_ne.mpr c15
          have c15b1 : (t155 != 0) = true := bne_iff_ne.mpr c15
          obtain rfl := Option.some.inj H
          have p153 : 0 ≤ (x30_2 : Int) := of_decide_eq_true (by first | (with_reducible assumption) | assumption)
          have q153 : x30_2 < (l0_0.length : Int) := of_decide_eq_true (by first | (with_reducible assumption) | assumption)
          obtain ⟨ad153, A153_2, c153_2, e153, hx153_0, hx153_1, hx153_2, hl153_2, hi153_2⟩ := at_T83 HR0_0.out x30_2 p153 q153
          cases e153
          replace hx153_0 := (HB.out.cell (World.block_lt_of_cell? w _ hx153_0)).trans hx153_0
          replace hx153_1 := (HB.out.cell (World.block_lt_of_cell? w _ hx153_1)).trans hx153_1
          replace hx153_2 := (HB.out.cell (World.block_lt_of_cell? w _ hx153_2)).trans hx153_2
          have HR153_2 := Aside0.mk hi153_2
          have HC153_2 := Aside0.mk hl153_2
          clear hi153_2 hl153_2
          replace p153 := eq_true p153
          replace q153 := eq_true q153
          go_wp2_with (first | ((with_reducible refine gate_dst (N := 4) rfl ?_); (try (refine gate_guard (by rfl) ?_; dsimp only)); refine box_event ?hg (N := 4) ?hd (cs := #[.string (⟨#[]⟩ : ByteArray), .int .i64 0, .slice none 0 0]) (t := 83) ?hr ?_; (case hd => rfl); (case hg => rfl); (case hr => first | (go_simp; done) | (go_simp; rfl)); intro gb154 hg w32 hbox hb; have BK154 := Aside0.mk hbox; have GE154 := Aside0.mk ((by rw [hg]; exact (below_size hbk) : w.heap.size ≤ gb154)); have NB152_154 := Aside0.mk ((by rw [hg]; exact Nat.ne_of_lt (blk_ltB BK152.out) : gb152 ≠ gb154)); have NB154_152 := Aside0.mk ((by rw [hg]; exact Nat.ne_of_gt (blk_ltB BK152.out) : gb154 ≠ gb152)); replace BK152 := Aside0.mk (blk_belowB BK152.out hb); replace HB := Aside0.mk (below_step hbk hb); clear hb hbox hg; have hnb33 := NB154_152.out; have hnc33 := NB152_154.out; obtain ⟨hcz34_0, hcz34_1, hcz34_2⟩ := blk_cs3 BK154.out; obtain ⟨hfz34_0, hfz34_1, hfz34_2⟩ := blk_fs3 BK154.out) | ((with_reducible refine gate_callee (f := 72) rfl ?_); refine goesL_ (some 36) rfl rfl Tryz.func72 (by kernel_rfl) rfl #[.agg #[.string ((rd_T83 l0_0 x30_2).f0), .int .i64 ((rd_T83 l0_0 x30_2).f1), .slice A153_2 ((rd_T83 l0_0 x30_2).f2).length c153_2]] rfl hgl ?_; (with_reducible refine (zone_Validate.calls k2 ((rd_T83 l0_0 x30_2).f0) ((rd_T83 l0_0 x30_2).f1) _ _ ((rd_T83 l0_0 x30_2).f2) t155 _ ?side1 ?side2 A14.out).mono ?_); (case side1 => exact Kd.C_below HR153_2.out hbk); (case side2 => exact HC153_2.out); rintro e w35 ⟨rfl, hb⟩; refine ⟨_, rfl, ?_⟩; have n0_ := Aside0.mk (blk_belowB BK152.out hb); have n1_ := Aside0.mk (blk_below (g := gb154) (o := .cells #[.string ((rd_T83 l0_0 x30_2).f0), .int .i64 ((rd_T83 l0_0 x30_2).f1), .slice A153_2 ((rd_T83 l0_0 x30_2).f2).length c153_2] 83 (0, 0)) (by (with_reducible repeat (first | refine blk_drewN ?_ _ | refine blk_drew ?_ | refine blk_alloc ?_ _)); refine blk_put (cs := #[.string ((rd_T83 l0_0 x30_2).f0), .int .i64 ((rd_T83 l0_0 x30_2).f1), .slice none 0 0]) ?_ 2 _ rfl; refine blk_put (cs := #[.string ((rd_T83 l0_0 x30_2).f0), .int .i64 0, .slice none 0 0]) ?_ 1 _ rfl; refine blk_put (cs := #[.string (⟨#[]⟩ : ByteArray), .int .i64 0, .slice none 0 0]) ?_ 0 _ rfl; (with_reducible repeat (first | refine blk_drewN ?_ _ | refine blk_drew ?_ | refine blk_alloc ?_ _)); exact BK154.out) hb); have n2_ := Aside0.mk (below_step hbk hb); clear BK152; clear BK154; clear HB; have BK152 := n0_; have BK154 := n1_; have HB := n2_; clear n0_ n1_ n2_; (try clear hb); (try clear hb2); (try clear hk); (try clear hi)))
          go_ret
          exact ⟨hrf, hbk⟩
        ·rw [if_neg c13] at H
         exact absurd H (by simp)
       ·rw [if_neg c12] at H
        exact absurd H (by simp)
      ·rw [if_neg c11] at H
       have c11b0 : decide (x30_2 < (l0_0.length : Int)) = false := decide_eq_false c11
       clear c11
       have H' := Aside0.mk H
       clear H
       obtain ⟨hcz36_0, hcz36_1, hcz36_2⟩ := blk_cs3 BK152.out
       obtain ⟨hfz36_0, hfz36_1, hfz36_2⟩ := blk_fs3 BK152.out
       go_wp2
       go_loopg [51] k2 (fun kq v51 w' => ∃ (x51_3 : Int), v51 = .int .i64 x51_3 ∧ Aside0 (timetable_Validate.l1 kq (l0_1.length : Int) x51_3 l0_0 l0_1 l0_2 = some r) ∧ Aside0 (kq ≤ k2) ∧ Aside0 (w'.heap[gb152]? = some (.cells #[(.slice A0_0 l0_0.length c0_0), (.slice A0_1 l0_1.length c0_1), (.slice A0_2 l0_2.length c0_2)] 32 (0, 0))) ∧ Aside0 (Below w.heap.size w w'))
       case atStart => exact ⟨(0), (by first | rfl | (simp; done) | (simp [*]; done)), H', ⟨Nat.le_refl _⟩, ⟨by (with_reducible repeat (first | refine blk_drewN ?_ _ | refine blk_drew ?_ | refine blk_alloc ?_ _)); exact BK152.out⟩, ⟨hbk⟩⟩
       case round =>
        clear H'
        try clear c1
        try clear p1
        try clear q1
        try clear hx1
        try clear c2
        try clear p2
        try clear c3
        try clear c4
        try clear c4b0
        try clear c4b1
        try clear c5
        try clear c6
        try clear c6b0
        try clear c6b1
        try clear p6
        try clear c7
        try clear c9
        try clear c11
        try clear c11b0
        try clear c12
        try clear c12b0
        try clear c13
        try clear c13b0
        try clear c15
        try clear c15b0
        try clear c15b1
        try clear p15
        try clear q15
        try clear hx15
        try clear c17
        try clear c17b0
        try clear c19
        try clear c26
        try clear c33
        try clear hcz10_0
        try clear hcz10_1
        try clear hcz10_2
        try clear hcz20_0
        try clear hcz20_1
        try clear hcz20_2
        try clear hcz22_0
        try clear hcz22_1
        try clear hcz22_2
        try clear hcz23_0
        try clear hcz23_1
        try clear hcz23_2
        try clear hcz27_0
        try clear hcz27_1
        try clear hcz27_2
        try clear hcz29_0
        try clear hcz29_1
        try clear hcz29_2
        try clear hcz30_0
        try clear hcz30_1
        try clear hcz30_2
        try clear hcz34_0
        try clear hcz34_1
        try clear hcz34_2
        try clear hcz36_0
        try clear hcz36_1
        try clear hcz36_2
        try clear hcz5_0
        try clear hcz5_1
        try clear hcz5_2
        try clear hcz7_0
        try clear hcz7_1
        try clear hcz7_2
        try clear hcz8_0
        try clear hcz8_1
        try clear hcz8_2
        try clear hfz10_0
        try clear hfz10_1
        try clear hfz10_2
        try clear hfz20_0
        try clear hfz20_1
        try clear hfz20_2
        try clear hfz22_0
        try clear hfz22_1
        try clear hfz22_2
        try clear hfz23_0
        try clear hfz23_1
        try clear hfz23_2
        try clear hfz27_0
        try clear hfz27_1
        try clear hfz27_2
        try clear hfz29_0
        try clear hfz29_1
        try clear hfz29_2
        try clear hfz30_0
        try clear hfz30_1
        try clear hfz30_2
        try clear hfz34_0
        try clear hfz34_1
        try clear hfz34_2
        try clear hfz36_0
        try clear hfz36_1
        try clear hfz36_2
        try clear hfz5_0
        try clear hfz5_1
        try clear hfz5_2
        try clear hfz7_0
        try clear hfz7_1
        try clear hfz7_2
        try clear hfz8_0
        try clear hfz8_1
        try clear hfz8_2
        try clear hx153_0
        try clear hx153_1
        try clear hx153_2
        try clear p153
        try clear p2
        try clear q153
        obtain ⟨x51_3, rfl, HA, HK3, BK152, HB⟩ := hrel
        cases gk with
        | zero => exact absurd HA.out (by simp [timetable_Validate.l1])
        | succ k3 =>
         have H := HA.out
         clear HA
         simp only [timetable_Validate.l1] at H
         by_cases c37 : x51_3 < (l0_1.length : Int)
         ·rw [if_pos c37] at H
          have c37b0 : decide (x51_3 < (l0_1.length : Int)) = true := decide_eq_true c37
          clear c37
          replace H := Option.bind_eq_some_iff.mp H
          obtain ⟨t157, A380, H⟩ := H
          replace H : (if t157 = 0 then (timetable_Validate.l1 k3 (l0_1.length : Int) (wrap64 (x51_3 + 1)) l0_0 l0_1 l0_2) else (some t157)) = some r := H
          have A38 := Aside0.mk A380
          clear A380
          by_cases c39 : t157 = 0
          ·rw [if_pos c39] at H
           have c39b0 : (t157 == 0) = true := beq_iff_eq.mpr c39
           have c39b1 : (t157 != 0) = false := bne_eq_false_iff_eq.mpr c39
           clear c39
           have H' := Aside0.mk H
           clear H
           obtain ⟨hcz40_0, hcz40_1, hcz40_2⟩ := blk_cs3 BK152.out
           obtain ⟨hfz40_0, hfz40_1, hfz40_2⟩ := blk_fs3 BK152.out
           go_wp2_with (first | ((with_reducible refine gate_callee (f := 74) rfl ?_); refine goesL_ (some 56) rfl rfl Tryz.func74 (by kernel_rfl) rfl #[.agg #[.slice A0_0 l0_0.length c0_0, .slice A0_1 l0_1.length c0_1, .slice A0_2 l0_2.length c0_2], .int .i64 x51_3] rfl hgl ?_; (with_reducible refine (timetable_checkAirport.calls k3 _ _ l0_0 _ _ l0_1 _ _ l0_2 x51_3 t157 _ ?side1 ?side2 ?side3 ?side4 ?side5 ?side6 A38.out).mono ?_); (case side1 => exact Kd.C_below HR0_0.out hbk); (case side2 => exact HC0_0.out); (case side3 => exact Kd.C_below HR0_1.out hbk); (case side4 => exact HC0_1.out); (case side5 => exact Kd.C_below HR0_2.out hbk); (case side6 => exact HC0_2.out); rintro e w41 ⟨rfl, hb⟩; refine ⟨_, rfl, ?_⟩; replace BK152 := Aside0.mk (blk_belowB BK152.out hb); replace HB := Aside0.mk (below_step hbk hb); (try clear hb); (try clear hb2); (try clear hk); (try clear hi)))
           go_roundg k3
           case measure => have := HJ1.out; have := HK2.out; have := HK3.out; omega
           case rel => exact ⟨(wrap64 (x51_3 + 1)), (by first | rfl | (simp; done) | (simp [*]; done)), H', ⟨by have := HJ1.out; have := HK2.out; have := HK3.out; omega⟩, ⟨by (with_reducible repeat (first | refine blk_drewN ?_ _ | refine blk_drew ?_ | refine blk_alloc ?_ _)); exact BK152.out⟩, ⟨hbk⟩⟩
          ·rw [if_neg c39] at H
           have c39b0 : (t157 == 0) = false := beq_eq_false_iff_ne.mpr c39
           have c39b1 : (t157 != 0) = true := bne_iff_ne.mpr c39
           obtain rfl := Option.some.inj H
           obtain ⟨hcz42_0, hcz42_1, hcz42_2⟩ := blk_cs3 BK152.out
           obtain ⟨hfz42_0, hfz42_1, hfz42_2⟩ := blk_fs3 BK152.out
           go_wp2_with (first | ((with_reducible refine gate_callee (f := 74) rfl ?_); refine goesL_ (some 56) rfl rfl Tryz.func74 (by kernel_rfl) rfl #[.agg #[.slice A0_0 l0_0.length c0_0, .slice A0_1 l0_1.length c0_1, .slice A0_2 l0_2.length c0_2], .int .i64 x51_3] rfl hgl ?_; (with_reducible refine (timetable_checkAirport.calls k3 _ _ l0_0 _ _ l0_1 _ _ l0_2 x51_3 t157 _ ?side1 ?side2 ?side3 ?side4 ?side5 ?side6 A38.out).mono ?_); (case side1 => exact Kd.C_below HR0_0.out hbk); (case side2 => exact HC0_0.out); (case side3 => exact Kd.C_below HR0_1.out hbk); (case side4 => exact HC0_1.out); (case side5 => exact Kd.C_below HR0_2.out hbk); (case side6 => exact HC0_2.out); rintro e w43 ⟨rfl, hb⟩; refine ⟨_, rfl, ?_⟩; replace BK152 := Aside0.mk (blk_belowB BK152.out hb); replace HB := Aside0.mk (below_step hbk hb); (try clear hb); (try clear hb2); (try clear hk); (try clear hi)))
           go_ret
           exact ⟨hrf, hbk⟩
         ·rw [if_neg c37] at H
          have c37b0 : decide (x51_3 < (l0_1.length : Int)) = false := decide_eq_false c37
          clear c37
          have H' := Aside0.mk H
          clear H
          obtain ⟨hcz44_0, hcz44_1, hcz44_2⟩ := blk_cs3 BK152.out
          obtain ⟨hfz44_0, hfz44_1, hfz44_2⟩ := blk_fs3 BK152.out
          go_wp2
          go_loopg [64] k3 (fun kq v64 w' => ∃ (x64_4 : Int), v64 = .int .i64 x64_4 ∧ Aside0 (timetable_Validate.l2 kq l0_2 (l0_2.length : Int) x64_4 l0_0 l0_1 l0_2 = some r) ∧ Aside0 (kq ≤ k3) ∧ Aside0 (w'.heap[gb152]? = some (.cells #[(.slice A0_0 l0_0.length c0_0), (.slice A0_1 l0_1.length c0_1), (.slice A0_2 l0_2.length c0_2)] 32 (0, 0))) ∧ Aside0 (Below w.heap.size w w'))
          case atStart => exact ⟨(0), (by first | rfl | (simp; done) | (simp [*]; done)), H', ⟨Nat.le_refl _⟩, ⟨by (with_reducible repeat (first | refine blk_drewN ?_ _ | refine blk_drew ?_ | refine blk_alloc ?_ _)); exact BK152.out⟩, ⟨hbk⟩⟩
          case round =>
           clear H'
           try clear c1
           try clear p1
           try clear q1
           try clear hx1
           try clear c2
           try clear p2
           try clear c3
           try clear c4
           try clear c4b0
           try clear c4b1
           try clear c5
           try clear c6
           try clear c6b0
           try clear c6b1
           try clear p6
           try clear c7
           try clear c9
           try clear c11
           try clear c11b0
           try clear c12
           try clear c12b0
           try clear c13
           try clear c13b0
           try clear c15
           try clear c15b0
           try clear c15b1
           try clear p15
           try clear q15
           try clear hx15
           try clear c17
           try clear c17b0
           try clear c19
           try clear c26
           try clear c33
           try clear c37
           try clear c37b0
           try clear c39
           try clear c39b0
           try clear c39b1
           try clear hcz10_0
           try clear hcz10_1
           try clear hcz10_2
           try clear hcz20_0
           try clear hcz20_1
           try clear hcz20_2
           try clear hcz22_0
           try clear hcz22_1
           try clear hcz22_2
           try clear hcz23_0
           try clear hcz23_1
           try clear hcz23_2
           try clear hcz27_0
           try clear hcz27_1
           try clear hcz27_2
           try clear hcz29_0
           try clear hcz29_1
           try clear hcz29_2
           try clear hcz30_0
           try clear hcz30_1
           try clear hcz30_2
           try clear hcz34_0
           try clear hcz34_1
           try clear hcz34_2
           try clear hcz36_0
           try clear hcz36_1
           try clear hcz36_2
           try clear hcz40_0
           try clear hcz40_1
           try clear hcz40_2
           try clear hcz42_0
           try clear hcz42_1
           try clear hcz42_2
           try clear hcz44_0
           try clear hcz44_1
           try clear hcz44_2
           try clear hcz5_0
           try clear hcz5_1
           try clear hcz5_2
           try clear hcz7_0
           try clear hcz7_1
           try clear hcz7_2
           try clear hcz8_0
           try clear hcz8_1
           try clear hcz8_2
           try clear hfz10_0
           try clear hfz10_1
           try clear hfz10_2
           try clear hfz20_0
           try clear hfz20_1
           try clear hfz20_2
           try clear hfz22_0
           try clear hfz22_1
           try clear hfz22_2
           try clear hfz23_0
           try clear hfz23_1
           try clear hfz23_2
           try clear hfz27_0
           try clear hfz27_1
           try clear hfz27_2
           try clear hfz29_0
           try clear hfz29_1
           try clear hfz29_2
           try clear hfz30_0
           try clear hfz30_1
           try clear hfz30_2
           try clear hfz34_0
           try clear hfz34_1
           try clear hfz34_2
           try clear hfz36_0
           try clear hfz36_1
           try clear hfz36_2
           try clear hfz40_0
           try clear hfz40_1
           try clear hfz40_2
           try clear hfz42_0
           try clear hfz42_1
           try clear hfz42_2
           try clear hfz44_0
           try clear hfz44_1
           try clear hfz44_2
           try clear hfz5_0
           try clear hfz5_1
           try clear hfz5_2
           try clear hfz7_0
           try clear hfz7_1
           try clear hfz7_2
           try clear hfz8_0
           try clear hfz8_1
           try clear hfz8_2
           try clear hx153_0
           try clear hx153_1
           try clear hx153_2
           try clear p1
           try clear p15
           try clear p153
           try clear p2
           try clear p6
           try clear q1
           try clear q15
           try clear q153
           obtain ⟨x64_4, rfl, HA, HK4, BK152, HB⟩ := hrel
           cases gk with
           | zero => exact absurd HA.out (by simp [timetable_Validate.l2])
           | succ k4 =>
            have H := HA.out
            clear HA
            simp only [timetable_Validate.l2] at H
            by_cases c45 : x64_4 < (l0_2.length : Int)
            ·rw [if_pos c45] at H
             have c45b0 : decide (x64_4 < (l0_2.length : Int)) = true := decide_eq_true c45
             clear c45
             by_cases c46 : 0 ≤ x64_4
             ·rw [if_pos c46] at H
              have c46b0 : decide (0 ≤ x64_4) = true := decide_eq_true c46
              clear c46
              by_cases c47 : x64_4 < (l0_2.length : Int)
              ·rw [if_pos c47] at H
               have c47b0 : decide (x64_4 < (l0_2.length : Int)) = true := decide_eq_true c47
               clear c47
               replace H := Option.bind_eq_some_iff.mp H
               obtain ⟨t160, A480, H⟩ := H
               replace H : (if t160 = 0 then (if x64_4 > 0 then (if 0 ≤ (wrap64 (x64_4 - 1)) then (if (wrap64 (x64_4 - 1)) < (l0_2.length : Int) then ((timetable_after.f ((rd_T73 l0_2 x64_4).f0) ((rd_T73 l0_2 x64_4).f1) ((rd_T73 l0_2 x64_4).f2) ((rd_T73 l0_2 x64_4).f3) ((rd_T73 l0_2 x64_4).f4) ((rd_T73 l0_2 x64_4).f5) ((rd_T73 l0_2 x64_4).f6.f0) ((rd_T73 l0_2 x64_4).f6.f1) ((rd_T73 l0_2 x64_4).f6.f2) ((rd_T73 l0_2 (wrap64 (x64_4 - 1))).f0) ((rd_T73 l0_2 (wrap64 (x64_4 - 1))).f1) ((rd_T73 l0_2 (wrap64 (x64_4 - 1))).f2) ((rd_T73 l0_2 (wrap64 (x64_4 - 1))).f3) ((rd_T73 l0_2 (wrap64 (x64_4 - 1))).f4) ((rd_T73 l0_2 (wrap64 (x64_4 - 1))).f5) ((rd_T73 l0_2 (wrap64 (x64_4 - 1))).f6.f0) ((rd_T73 l0_2 (wrap64 (x64_4 - 1))).f6.f1) ((rd_T73 l0_2 (wrap64 (x64_4 - 1))).f6.f2)).bind fun t162 => (if t162 = true then (timetable_Validate.l2 k4 l0_2 (l0_2.length : Int) (wrap64 (x64_4 + 1)) l0_0 l0_1 l0_2) else (some 8))) else (none)) else (none)) else (timetable_Validate.l2 k4 l0_2 (l0_2.length : Int) (wrap64 (x64_4 + 1)) l0_0 l0_1 l0_2)) else (some t160)) = some r := H
               have A48 := Aside0.mk A480
               clear A480
               by_cases c49 : t160 = 0
               ·rw [if_pos c49] at H
                have c49b0 : (t160 == 0) = true := beq_iff_eq.mpr c49
                have c49b1 : (t160 != 0) = false := bne_eq_false_iff_eq.mpr c49
                clear c49
                by_cases c50 : x64_4 > 0
                ·rw [if_pos c50] at H
                 have c50b0 : decide (0 < x64_4) = true := decide_eq_true c50
                 clear c50
                 obtain ⟨ji51, hji51⟩ : ∃ j_ : Int, (wrap64 (x64_4 - 1)) = j_ := ⟨_, rfl⟩
                 replace H : (if 0 ≤ (ji51) then (if (ji51) < (l0_2.length : Int) then ((timetable_after.f ((rd_T73 l0_2 x64_4).f0) ((rd_T73 l0_2 x64_4).f1) ((rd_T73 l0_2 x64_4).f2) ((rd_T73 l0_2 x64_4).f3) ((rd_T73 l0_2 x64_4).f4) ((rd_T73 l0_2 x64_4).f5) ((rd_T73 l0_2 x64_4).f6.f0) ((rd_T73 l0_2 x64_4).f6.f1) ((rd_T73 l0_2 x64_4).f6.f2) ((rd_T73 l0_2 (ji51)).f0) ((rd_T73 l0_2 (ji51)).f1) ((rd_T73 l0_2 (ji51)).f2) ((rd_T73 l0_2 (ji51)).f3) ((rd_T73 l0_2 (ji51)).f4) ((rd_T73 l0_2 (ji51)).f5) ((rd_T73 l0_2 (ji51)).f6.f0) ((rd_T73 l0_2 (ji51)).f6.f1) ((rd_T73 l0_2 (ji51)).f6.f2)).bind fun t162 => (if t162 = true then (timetable_Validate.l2 k4 l0_2 (l0_2.length : Int) (wrap64 (x64_4 + 1)) l0_0 l0_1 l0_2) else (some 8))) else (none)) else (none)) = some r := by first | (rw [hji51] at H; exact H) | (simp only [hji51] at H ⊢; exact H)
                 (try rw [hji51] at A48)
                 have hji51w : (IntKind.i64.wrap (x64_4 - 1)) = ji51 := (i64_w _).trans hji51
                 by_cases c52 : 0 ≤ (ji51)
                 ·rw [if_pos c52] at H
                  have c52b0 : decide (0 ≤ (ji51)) = true := decide_eq_true c52
                  clear c52
                  by_cases c53 : (ji51) < (l0_2.length : Int)
                  ·rw [if_pos c53] at H
                   have c53b0 : decide ((ji51) < (l0_2.length : Int)) = true := decide_eq_true c53
                   clear c53
                   replace H := Option.bind_eq_some_iff.mp H
                   obtain ⟨t162, A540, H⟩ := H
                   replace H : (if t162 = true then (timetable_Validate.l2 k4 l0_2 (l0_2.length : Int) (wrap64 (x64_4 + 1)) l0_0 l0_1 l0_2) else (some 8)) = some r := H
                   have A54 := Aside0.mk A540
                   clear A540
                   by_cases c55 : t162 = true
                   ·subst c55
                    have H1 : (timetable_Validate.l2 k4 l0_2 (l0_2.length : Int) (wrap64 (x64_4 + 1)) l0_0 l0_1 l0_2) = some r := by rw [if_pos rfl] at H; exact H
                    clear H
                    have H := H1
                    clear H1
                    have H' := Aside0.mk H
                    clear H
                    have p158 : 0 ≤ (x64_4 : Int) := of_decide_eq_true (by first | (with_reducible assumption) | assumption)
                    have q158 : x64_4 < (l0_2.length : Int) := of_decide_eq_true (by first | (with_reducible assumption) | assumption)
                    obtain ⟨ad158, e158, hx158_0, hx158_1, hx158_2, hx158_3, hx158_4, hx158_5, hx158_6, hx158_7, hx158_8⟩ := at_T73 HR0_2.out x64_4 p158 q158
                    cases e158
                    replace hx158_0 := (HB.out.cell (World.block_lt_of_cell? w _ hx158_0)).trans hx158_0
                    replace hx158_1 := (HB.out.cell (World.block_lt_of_cell? w _ hx158_1)).trans hx158_1
                    replace hx158_2 := (HB.out.cell (World.block_lt_of_cell? w _ hx158_2)).trans hx158_2
                    replace hx158_3 := (HB.out.cell (World.block_lt_of_cell? w _ hx158_3)).trans hx158_3
                    replace hx158_4 := (HB.out.cell (World.block_lt_of_cell? w _ hx158_4)).trans hx158_4
                    replace hx158_5 := (HB.out.cell (World.block_lt_of_cell? w _ hx158_5)).trans hx158_5
                    replace hx158_6 := (HB.out.cell (World.block_lt_of_cell? w _ hx158_6)).trans hx158_6
                    replace hx158_7 := (HB.out.cell (World.block_lt_of_cell? w _ hx158_7)).trans hx158_7
                    replace hx158_8 := (HB.out.cell (World.block_lt_of_cell? w _ hx158_8)).trans hx158_8
                    replace p158 := eq_true p158
                    replace q158 := eq_true q158
                    try go_wp2_with (first | ((with_reducible refine gate_dst (N := 9) rfl ?_); (try (refine gate_guard (by rfl) ?_; dsimp only)); refine box_event ?hg (N := 9) ?hd (cs := #[.string (⟨#[]⟩ : ByteArray), .string (⟨#[]⟩ : ByteArray), .string (⟨#[]⟩ : ByteArray), .int .i64 0, .int .i64 0, .string (⟨#[]⟩ : ByteArray), .int .i64 0, .int .i64 0, .int .i64 0]) (t := 73) ?hr ?_; (case hd => rfl); (case hg => rfl); (case hr => first | (go_simp; done) | (go_simp; rfl)); intro gb159 hg w56 hbox hb; have BK159 := Aside0.mk hbox; have GE159 := Aside0.mk ((by rw [hg]; exact (below_size hbk) : w.heap.size ≤ gb159)); have NB152_159 := Aside0.mk ((by rw [hg]; exact Nat.ne_of_lt (blk_ltB BK152.out) : gb152 ≠ gb159)); have NB159_152 := Aside0.mk ((by rw [hg]; exact Nat.ne_of_gt (blk_ltB BK152.out) : gb159 ≠ gb152)); replace BK152 := Aside0.mk (blk_belowB BK152.out hb); replace HB := Aside0.mk (below_step hbk hb); clear hb hbox hg; have hnb57 := NB159_152.out; have hnc57 := NB152_159.out; obtain ⟨hcz58_0, hcz58_1, hcz58_2, hcz58_3, hcz58_4, hcz58_5, hcz58_6, hcz58_7, hcz58_8⟩ := blk_cs9 BK159.out; obtain ⟨hfz58_0, hfz58_1, hfz58_2, hfz58_3, hfz58_4, hfz58_5, hfz58_6, hfz58_7, hfz58_8⟩ := blk_fs9 BK159.out; obtain ⟨hcz59_0, hcz59_1, hcz59_2⟩ := blk_cs3 BK152.out; obtain ⟨hfz59_0, hfz59_1, hfz59_2⟩ := blk_fs3 BK152.out) | ((with_reducible refine gate_callee (f := 75) rfl ?_); refine goesL_ (some 71) rfl rfl Tryz.func75 (by kernel_rfl) rfl #[.agg #[.slice A0_0 l0_0.length c0_0, .slice A0_1 l0_1.length c0_1, .slice (some ad158) l0_2.length c0_2], .agg #[.string ((rd_T73 l0_2 x64_4).f0), .string ((rd_T73 l0_2 x64_4).f1), .string ((rd_T73 l0_2 x64_4).f2), .int .i64 ((rd_T73 l0_2 x64_4).f3), .int .i64 ((rd_T73 l0_2 x64_4).f4), .string ((rd_T73 l0_2 x64_4).f5), .int .i64 ((rd_T73 l0_2 x64_4).f6.f0), .int .i64 ((rd_T73 l0_2 x64_4).f6.f1), .int .i64 ((rd_T73 l0_2 x64_4).f6.f2)]] rfl hgl ?_; (with_reducible refine (timetable_checkFlight.calls k4 _ _ l0_0 _ _ l0_1 _ _ l0_2 ((rd_T73 l0_2 x64_4).f0) ((rd_T73 l0_2 x64_4).f1) ((rd_T73 l0_2 x64_4).f2) ((rd_T73 l0_2 x64_4).f3) ((rd_T73 l0_2 x64_4).f4) ((rd_T73 l0_2 x64_4).f5) ((rd_T73 l0_2 x64_4).f6.f0) ((rd_T73 l0_2 x64_4).f6.f1) ((rd_T73 l0_2 x64_4).f6.f2) t160 _ ?side1 ?side2 ?side3 ?side4 ?side5 ?side6 A48.out).mono ?_); (case side1 => exact Kd.C_below HR0_0.out hbk); (case side2 => exact HC0_0.out); (case side3 => exact Kd.C_below HR0_1.out hbk); (case side4 => exact HC0_1.out); (case side5 => exact Kd.C_below HR0_2.out hbk); (case side6 => exact HC0_2.out); rintro e w60 ⟨rfl, hb⟩; refine ⟨_, rfl, ?_⟩; have n0_ := Aside0.mk (blk_belowB BK152.out hb); have n1_ := Aside0.mk (blk_below (g := gb159) (o := .cells #[.string ((rd_T73 l0_2 x64_4).f0), .string ((rd_T73 l0_2 x64_4).f1), .string ((rd_T73 l0_2 x64_4).f2), .int .i64 ((rd_T73 l0_2 x64_4).f3), .int .i64 ((rd_T73 l0_2 x64_4).f4), .string ((rd_T73 l0_2 x64_4).f5), .int .i64 ((rd_T73 l0_2 x64_4).f6.f0), .int .i64 ((rd_T73 l0_2 x64_4).f6.f1), .int .i64 ((rd_T73 l0_2 x64_4).f6.f2)] 73 (0, 0)) (by (with_reducible repeat (first | refine blk_drewN ?_ _ | refine blk_drew ?_ | refine blk_alloc ?_ _)); refine blk_put (cs := #[.string ((rd_T73 l0_2 x64_4).f0), .string ((rd_T73 l0_2 x64_4).f1), .string ((rd_T73 l0_2 x64_4).f2), .int .i64 ((rd_T73 l0_2 x64_4).f3), .int .i64 ((rd_T73 l0_2 x64_4).f4), .string ((rd_T73 l0_2 x64_4).f5), .int .i64 ((rd_T73 l0_2 x64_4).f6.f0), .int .i64 ((rd_T73 l0_2 x64_4).f6.f1), .int .i64 0]) ?_ 8 _ rfl; refine blk_put (cs := #[.string ((rd_T73 l0_2 x64_4).f0), .string ((rd_T73 l0_2 x64_4).f1), .string ((rd_T73 l0_2 x64_4).f2), .int .i64 ((rd_T73 l0_2 x64_4).f3), .int .i64 ((rd_T73 l0_2 x64_4).f4), .string ((rd_T73 l0_2 x64_4).f5), .int .i64 ((rd_T73 l0_2 x64_4).f6.f0), .int .i64 0, .int .i64 0]) ?_ 7 _ rfl; refine blk_put (cs := #[.string ((rd_T73 l0_2 x64_4).f0), .string ((rd_T73 l0_2 x64_4).f1), .string ((rd_T73 l0_2 x64_4).f2), .int .i64 ((rd_T73 l0_2 x64_4).f3), .int .i64 ((rd_T73 l0_2 x64_4).f4), .string ((rd_T73 l0_2 x64_4).f5), .int .i64 0, .int .i64 0, .int .i64 0]) ?_ 6 _ rfl; refine blk_put (cs := #[.string ((rd_T73 l0_2 x64_4).f0), .string ((rd_T73 l0_2 x64_4).f1), .string ((rd_T73 l0_2 x64_4).f2), .int .i64 ((rd_T73 l0_2 x64_4).f3), .int .i64 ((rd_T73 l0_2 x64_4).f4), .string (⟨#[]⟩ : ByteArray), .int .i64 0, .int .i64 0, .int .i64 0]) ?_ 5 _ rfl; refine blk_put (cs := #[.string ((rd_T73 l0_2 x64_4).f0), .string ((rd_T73 l0_2 x64_4).f1), .string ((rd_T73 l0_2 x64_4).f2), .int .i64 ((rd_T73 l0_2 x64_4).f3), .int .i64 0, .string (⟨#[]⟩ : ByteArray), .int .i64 0, .int .i64 0, .int .i64 0]) ?_ 4 _ rfl; refine blk_put (cs := #[.string ((rd_T73 l0_2 x64_4).f0), .string ((rd_T73 l0_2 x64_4).f1), .string ((rd_T73 l0_2 x64_4).f2), .int .i64 0, .int .i64 0, .string (⟨#[]⟩ : ByteArray), .int .i64 0, .int .i64 0, .int .i64 0]) ?_ 3 _ rfl; refine blk_put (cs := #[.string ((rd_T73 l0_2 x64_4).f0), .string ((rd_T73 l0_2 x64_4).f1), .string (⟨#[]⟩ : ByteArray), .int .i64 0, .int .i64 0, .string (⟨#[]⟩ : ByteArray), .int .i64 0, .int .i64 0, .int .i64 0]) ?_ 2 _ rfl; refine blk_put (cs := #[.string ((rd_T73 l0_2 x64_4).f0), .string (⟨#[]⟩ : ByteArray), .string (⟨#[]⟩ : ByteArray), .int .i64 0, .int .i64 0, .string (⟨#[]⟩ : ByteArray), .int .i64 0, .int .i64 0, .int .i64 0]) ?_ 1 _ rfl; refine blk_put (cs := #[.string (⟨#[]⟩ : ByteArray), .string (⟨#[]⟩ : ByteArray), .string (⟨#[]⟩ : ByteArray), .int .i64 0, .int .i64 0, .string (⟨#[]⟩ : ByteArray), .int .i64 0, .int .i64 0, .int .i64 0]) ?_ 0 _ rfl; (with_reducible repeat (first | refine blk_drewN ?_ _ | refine blk_drew ?_ | refine blk_alloc ?_ _)); exact BK159.out) hb); have n2_ := Aside0.mk (below_step hbk hb); clear BK152; clear BK159; clear HB; have BK152 := n0_; have BK159 := n1_; have HB := n2_; clear n0_ n1_ n2_; (try clear hb); (try clear hb2); (try clear hk); (try clear hi)))
                    replace BK152 := Aside0.mk (blk_drew BK152.out)
                    replace BK159 := Aside0.mk (blk_drew BK159.out)
                    replace HB := Aside0.mk (below_drew1 HB.out)
                    have p161 : 0 ≤ ((ji51) : Int) := of_decide_eq_true (by first | (with_reducible assumption) | assumption)
                    have q161 : (ji51) < (l0_2.length : Int) := of_decide_eq_true (by first | (with_reducible assumption) | assumption)
                    obtain ⟨ad161, e161, hx161_0, hx161_1, hx161_2, hx161_3, hx161_4, hx161_5, hx161_6, hx161_7, hx161_8⟩ := at_T73 HR0_2.out (ji51) p161 q161
                    have hw161_8 := hx161_8
                    have hw161_7 := hx161_7
                    have hw161_6 := hx161_6
                    have hw161_5 := hx161_5
                    have hw161_4 := hx161_4
                    have hw161_3 := hx161_3
                    have hw161_2 := hx161_2
                    have hw161_1 := hx161_1
                    have hw161_0 := hx161_0
                    obtain rfl : ad158 = ad161 := (by injection e161)
                    replace hx161_0 := (HB.out.cell (World.block_lt_of_cell? w _ hx161_0)).trans hx161_0
                    replace hx161_1 := (HB.out.cell (World.block_lt_of_cell? w _ hx161_1)).trans hx161_1
                    replace hx161_2 := (HB.out.cell (World.block_lt_of_cell? w _ hx161_2)).trans hx161_2
                    replace hx161_3 := (HB.out.cell (World.block_lt_of_cell? w _ hx161_3)).trans hx161_3
                    replace hx161_4 := (HB.out.cell (World.block_lt_of_cell? w _ hx161_4)).trans hx161_4
                    replace hx161_5 := (HB.out.cell (World.block_lt_of_cell? w _ hx161_5)).trans hx161_5
                    replace hx161_6 := (HB.out.cell (World.block_lt_of_cell? w _ hx161_6)).trans hx161_6
                    replace hx161_7 := (HB.out.cell (World.block_lt_of_cell? w _ hx161_7)).trans hx161_7
                    replace hx161_8 := (HB.out.cell (World.block_lt_of_cell? w _ hx161_8)).trans hx161_8
                    replace p161 := eq_true p161
                    replace q161 := eq_true q161
                    refine start_ (n := 13) (S := fun w' => w'.cell? ⟨gb159, 0, none⟩ = some (.string ((rd_T73 l0_2 x64_4).f0)) ∧ w'.cell? ⟨gb159, 1, none⟩ = some (.string ((rd_T73 l0_2 x64_4).f1)) ∧ w'.cell? ⟨gb159, 2, none⟩ = some (.string ((rd_T73 l0_2 x64_4).f2)) ∧ w'.cell? ⟨gb159, 3, none⟩ = some (.int .i64 ((rd_T73 l0_2 x64_4).f3)) ∧ w'.cell? ⟨gb159, 4, none⟩ = some (.int .i64 ((rd_T73 l0_2 x64_4).f4)) ∧ w'.cell? ⟨gb159, 5, none⟩ = some (.string ((rd_T73 l0_2 x64_4).f5)) ∧ w'.cell? ⟨gb159, 6, none⟩ = some (.int .i64 ((rd_T73 l0_2 x64_4).f6.f0)) ∧ w'.cell? ⟨gb159, 7, none⟩ = some (.int .i64 ((rd_T73 l0_2 x64_4).f6.f1)) ∧ w'.cell? ⟨gb159, 8, none⟩ = some (.int .i64 ((rd_T73 l0_2 x64_4).f6.f2)) ∧ w'.cell? ⟨gb152, 0, none⟩ = some (.slice A0_0 l0_0.length c0_0) ∧ w'.cell? ⟨gb152, 1, none⟩ = some (.slice A0_1 l0_1.length c0_1) ∧ w'.cell? ⟨gb152, 2, none⟩ = some (.slice (some ad158) l0_2.length c0_2) ∧ w'.cell? (ad158.add (((ji51)).toNat * 9)) = some (.string ((rd_T73 l0_2 (ji51)).f0)) ∧ w'.cell? ⟨(ad158.add (((ji51)).toNat * 9)).block, (ad158.add (((ji51)).toNat * 9)).off + 1, none⟩ = some (.string ((rd_T73 l0_2 (ji51)).f1)) ∧ w'.cell? ⟨(ad158.add (((ji51)).toNat * 9)).block, (ad158.add (((ji51)).toNat * 9)).off + 2, none⟩ = some (.string ((rd_T73 l0_2 (ji51)).f2)) ∧ w'.cell? ⟨(ad158.add (((ji51)).toNat * 9)).block, (ad158.add (((ji51)).toNat * 9)).off + 3, none⟩ = some (.int .i64 ((rd_T73 l0_2 (ji51)).f3)) ∧ w'.cell? ⟨(ad158.add (((ji51)).toNat * 9)).block, (ad158.add (((ji51)).toNat * 9)).off + 4, none⟩ = some (.int .i64 ((rd_T73 l0_2 (ji51)).f4)) ∧ w'.cell? ⟨(ad158.add (((ji51)).toNat * 9)).block, (ad158.add (((ji51)).toNat * 9)).off + 5, none⟩ = some (.string ((rd_T73 l0_2 (ji51)).f5)) ∧ w'.cell? ⟨(ad158.add (((ji51)).toNat * 9)).block, (ad158.add (((ji51)).toNat * 9)).off + 6, none⟩ = some (.int .i64 ((rd_T73 l0_2 (ji51)).f6.f0)) ∧ w'.cell? ⟨(ad158.add (((ji51)).toNat * 9)).block, (ad158.add (((ji51)).toNat * 9)).off + 7, none⟩ = some (.int .i64 ((rd_T73 l0_2 (ji51)).f6.f1)) ∧ w'.cell? ⟨(ad158.add (((ji51)).toNat * 9)).block, (ad158.add (((ji51)).toNat * 9)).off + 8, none⟩ = some (.int .i64 ((rd_T73 l0_2 (ji51)).f6.f2))) (ds := []) #[false, false, false, false, false, false, false, false, false, false, false, false, false] (by kernel_rfl) rfl rfl ⟨(blk_cell BK159.out 0).trans rfl, (blk_cell BK159.out 1).trans rfl, (blk_cell BK159.out 2).trans rfl, (blk_cell BK159.out 3).trans rfl, (blk_cell BK159.out 4).trans rfl, (blk_cell BK159.out 5).trans rfl, (blk_cell BK159.out 6).trans rfl, (blk_cell BK159.out 7).trans rfl, (blk_cell BK159.out 8).trans rfl, (blk_cell BK152.out 0).trans rfl, (blk_cell BK152.out 1).trans rfl, (blk_cell BK152.out 2).trans rfl, ((HB.out.cell (World.block_lt_of_cell? w _ hw161_0)).trans hw161_0), ((HB.out.cell (World.block_lt_of_cell? w _ hw161_1)).trans hw161_1), ((HB.out.cell (World.block_lt_of_cell? w _ hw161_2)).trans hw161_2), ((HB.out.cell (World.block_lt_of_cell? w _ hw161_3)).trans hw161_3), ((HB.out.cell (World.block_lt_of_cell? w _ hw161_4)).trans hw161_4), ((HB.out.cell (World.block_lt_of_cell? w _ hw161_5)).trans hw161_5), ((HB.out.cell (World.block_lt_of_cell? w _ hw161_6)).trans hw161_6), ((HB.out.cell (World.block_lt_of_cell? w _ hw161_7)).trans hw161_7), ((HB.out.cell (World.block_lt_of_cell? w _ hw161_8)).trans hw161_8)⟩ (fun hHeld => ?_); refine with_tabW timetable_Validate.tab25 timetable_Validate.bits25 (fun HT_ HW_ => ?_)
                    generalize w60.drew = w61 at BK152 BK159 HB hx161_0 hx161_1 hx161_2 hx161_3 hx161_4 hx161_5 hx161_6 hx161_7 hx161_8 hHeld ⊢
                    refine pure_ (i := 0) (N := some 75) (v := ?_) (a' := ?_) #[true, false, false, false, false, false, false, false, false, false, false, false, false] rfl rfl (any_of HT_.out (by kernel_rfl)) (fun _ _ _ h => h) (Or.inl ⟨by rfl, ?_⟩) ?_ ?_
                    rotate_left
                    ·intro w'
                     go_simp
                     with_reducible rfl
                    rotate_left
                    ·simp only [Act.put, List.setIfInBounds_toArray, List.set_cons_zero, List.set_cons_succ, i64_w, i32_w]
                     rfl
                    refine pure_ (i := 1) (N := some 76) (v := ?_) (a' := ?_) #[true, true, false, false, false, false, false, false, false, false, false, false, false] rfl rfl (any_of HT_.out (by kernel_rfl)) (fun _ _ _ h => h) (Or.inl ⟨by rfl, ?_⟩) ?_ ?_
                    rotate_left
                    ·intro w'
                     go_simp
                     with_reducible rfl
                    rotate_left
                    ·simp only [Act.put, List.setIfInBounds_toArray, List.set_cons_zero, List.set_cons_succ, i64_w, i32_w]
                     rfl
                    refine pure_ (i := 2) (N := some 77) (v := ?_) (a' := ?_) #[true, true, true, false, false, false, false, false, false, false, false, false, false] rfl rfl (any_of HT_.out (by kernel_rfl)) (fun _ _ _ h => h) (Or.inl ⟨by rfl, ?_⟩) ?_ ?_
                    rotate_left
                    ·intro w'
                     go_simp
                     with_reducible rfl
                    rotate_left
                    ·simp only [Act.put, List.setIfInBounds_toArray, List.set_cons_zero, List.set_cons_succ, i64_w, i32_w]
                     rfl
                    refine pure_ (i := 4) (N := some 79) (v := ?_) (a' := ?_) #[true, true, true, false, true, false, false, false, false, false, false, false, false] rfl rfl (any_of HT_.out (by kernel_rfl)) (fun _ _ _ h => h) (Or.inl ⟨by rfl, ?_⟩) ?_ ?_
                    rotate_left
                    ·intro w'
                     go_simp
                     with_reducible rfl
                    rotate_left
                    ·simp only [Act.put, List.setIfInBounds_toArray, List.set_cons_zero, List.set_cons_succ, i64_w, i32_w]
                     rfl
                    refine pure_ (i := 6) (N := some 81) (v := ?_) (a' := ?_) #[true, true, true, false, true, false, true, false, false, false, false, false, false] rfl rfl (any_of HT_.out (by kernel_rfl)) (fun _ _ _ h => h) (Or.inl ⟨by rfl, ?_⟩) ?_ ?_
                    rotate_left
                    ·intro w'
                     go_simp
                     with_reducible rfl
                    rotate_left
                    ·simp only [Act.put, List.setIfInBounds_toArray, List.set_cons_zero, List.set_cons_succ, i64_w, i32_w]
                     rfl
                    refine pure_ (i := 7) (N := some 82) (v := ?_) (a' := ?_) #[true, true, true, false, true, false, true, true, false, false, false, false, false] rfl rfl (any_of HT_.out (by kernel_rfl)) (fun _ _ _ h => h) (Or.inl ⟨by rfl, ?_⟩) ?_ ?_
                    rotate_left
                    ·intro w'
                     go_simp
                     with_reducible rfl
                    rotate_left
                    ·simp only [Act.put, List.setIfInBounds_toArray, List.set_cons_zero, List.set_cons_succ, i64_w, i32_w]
                     rfl
                    refine take_ (i := 3) (N := some 78) (v := ?_) (a' := ?_) #[true, true, true, true, true, false, true, true, false, false, false, false, false] rfl rfl (take_ofW HT_.out HW_.out (by kernel_rfl)) (fun _ _ _ h => h) (Or.inl ⟨by rfl, ?_⟩) hHeld ?_ ?_
                    rotate_left
                    ·rintro w' ⟨s0, s1, s2, s3, s4, s5, s6, s7, s8, s9, s10, s11, s12, s13, s14, s15, s16, s17, s18, s19, s20⟩
                     go_simp
                     with_reducible rfl
                    rotate_left
                    ·simp only [Act.put, List.setIfInBounds_toArray, List.set_cons_zero, List.set_cons_succ, i64_w, i32_w]
                     rfl
                    refine take_ (i := 5) (N := some 80) (v := ?_) (a' := ?_) #[true, true, true, true, true, true, true, true, false, false, false, false, false] rfl rfl (take_ofW HT_.out HW_.out (by kernel_rfl)) (fun _ _ _ h => h) (Or.inl ⟨by rfl, ?_⟩) hHeld ?_ ?_
                    rotate_left
                    ·rintro w' ⟨s0, s1, s2, s3, s4, s5, s6, s7, s8, s9, s10, s11, s12, s13, s14, s15, s16, s17, s18, s19, s20⟩
                     go_simp
                     with_reducible rfl
                    rotate_left
                    ·simp only [Act.put, List.setIfInBounds_toArray, List.set_cons_zero, List.set_cons_succ, i64_w, i32_w]
                     rfl
                    refine pure_ (i := 8) (N := some 83) (v := ?_) (a' := ?_) #[true, true, true, true, true, true, true, true, true, false, false, false, false] rfl rfl (any_of HT_.out (by kernel_rfl)) (fun _ _ _ h => h) (Or.inl ⟨by rfl, ?_⟩) ?_ ?_
                    rotate_left
                    ·intro w'
                     go_simp
                     with_reducible rfl
                    rotate_left
                    ·simp only [Act.put, List.setIfInBounds_toArray, List.set_cons_zero, List.set_cons_succ, i64_w, i32_w]
                     rfl
                    refine take_ (i := 9) (N := some 84) (v := ?_) (a' := ?_) #[true, true, true, true, true, true, true, true, true, true, false, false, false] rfl rfl (take_ofW HT_.out HW_.out (by kernel_rfl)) (fun _ _ _ h => h) (Or.inl ⟨by rfl, ?_⟩) hHeld ?_ ?_
                    rotate_left
                    ·rintro w' ⟨s0, s1, s2, s3, s4, s5, s6, s7, s8, s9, s10, s11, s12, s13, s14, s15, s16, s17, s18, s19, s20⟩
                     go_simp
                     with_reducible rfl
                    rotate_left
                    ·simp only [Act.put, List.setIfInBounds_toArray, List.set_cons_zero, List.set_cons_succ, i64_w, i32_w]
                     rfl
                    refine one_ (i := 10) (N := some 85) #[true, true, true, true, true, true, true, true, true, true, true, false, false] rfl rfl (one_of HT_.out (by kernel_rfl)) (by decide) (fun K hK => ?_)
                    refine goes_ Tryz.func76 (by kernel_rfl) rfl #[.agg #[.string ((rd_T73 l0_2 x64_4).f0), .string ((rd_T73 l0_2 x64_4).f1), .string ((rd_T73 l0_2 x64_4).f2), .int .i64 ((rd_T73 l0_2 x64_4).f3), .int .i64 ((rd_T73 l0_2 x64_4).f4), .string ((rd_T73 l0_2 x64_4).f5), .int .i64 ((rd_T73 l0_2 x64_4).f6.f0), .int .i64 ((rd_T73 l0_2 x64_4).f6.f1), .int .i64 ((rd_T73 l0_2 x64_4).f6.f2)], .agg #[.string ((rd_T73 l0_2 (ji51)).f0), .string ((rd_T73 l0_2 (ji51)).f1), .string ((rd_T73 l0_2 (ji51)).f2), .int .i64 ((rd_T73 l0_2 (ji51)).f3), .int .i64 ((rd_T73 l0_2 (ji51)).f4), .string ((rd_T73 l0_2 (ji51)).f5), .int .i64 ((rd_T73 l0_2 (ji51)).f6.f0), .int .i64 ((rd_T73 l0_2 (ji51)).f6.f1), .int .i64 ((rd_T73 l0_2 (ji51)).f6.f2)]] (by rfl) rfl rfl (by (try simp only [List.map_toArray, List.map_cons, List.map_nil]); first | done | (simp only [hji51]; rfl) | rfl | (simp only [List.length_drop, List.length_take]; rfl)) ?_
                    with_reducible refine (timetable_after.calls ((rd_T73 l0_2 x64_4).f0) ((rd_T73 l0_2 x64_4).f1) ((rd_T73 l0_2 x64_4).f2) ((rd_T73 l0_2 x64_4).f3) ((rd_T73 l0_2 x64_4).f4) ((rd_T73 l0_2 x64_4).f5) ((rd_T73 l0_2 x64_4).f6.f0) ((rd_T73 l0_2 x64_4).f6.f1) ((rd_T73 l0_2 x64_4).f6.f2) ((rd_T73 l0_2 (ji51)).f0) ((rd_T73 l0_2 (ji51)).f1) ((rd_T73 l0_2 (ji51)).f2) ((rd_T73 l0_2 (ji51)).f3) ((rd_T73 l0_2 (ji51)).f4) ((rd_T73 l0_2 (ji51)).f5) ((rd_T73 l0_2 (ji51)).f6.f0) ((rd_T73 l0_2 (ji51)).f6.f1) ((rd_T73 l0_2 (ji51)).f6.f2) true _ A54.out).mono ?_
                    rintro e w62 ⟨rfl, hb⟩
                    refine ⟨_, rfl, ?_⟩
                    replace BK152 := Aside0.mk (blk_belowB BK152.out hb)
                    replace BK159 := Aside0.mk (blk_belowB BK159.out hb)
                    replace HB := Aside0.mk (below_step hbk hb)
                    (try clear hb)
                    (try clear hb2)
                    (try clear hk)
                    (try clear hi)
                    refine hK.out _ _ ⟨(blk_cell BK159.out 0).trans rfl, (blk_cell BK159.out 1).trans rfl, (blk_cell BK159.out 2).trans rfl, (blk_cell BK159.out 3).trans rfl, (blk_cell BK159.out 4).trans rfl, (blk_cell BK159.out 5).trans rfl, (blk_cell BK159.out 6).trans rfl, (blk_cell BK159.out 7).trans rfl, (blk_cell BK159.out 8).trans rfl, (blk_cell BK152.out 0).trans rfl, (blk_cell BK152.out 1).trans rfl, (blk_cell BK152.out 2).trans rfl, ((HB.out.cell (World.block_lt_of_cell? w _ hw161_0)).trans hw161_0), ((HB.out.cell (World.block_lt_of_cell? w _ hw161_1)).trans hw161_1), ((HB.out.cell (World.block_lt_of_cell? w _ hw161_2)).trans hw161_2), ((HB.out.cell (World.block_lt_of_cell? w _ hw161_3)).trans hw161_3), ((HB.out.cell (World.block_lt_of_cell? w _ hw161_4)).trans hw161_4), ((HB.out.cell (World.block_lt_of_cell? w _ hw161_5)).trans hw161_5), ((HB.out.cell (World.block_lt_of_cell? w _ hw161_6)).trans hw161_6), ((HB.out.cell (World.block_lt_of_cell? w _ hw161_7)).trans hw161_7), ((HB.out.cell (World.block_lt_of_cell? w _ hw161_8)).trans hw161_8)⟩ (fun hHeld => ?_)
                    clear hK K
                    refine norm_ (a' := ?_) ?_ ?_
                    rotate_left
                    ·show Act.put _ (some 85) _ = _
                     simp only [Act.put, List.setIfInBounds_toArray, List.set_cons_zero, List.set_cons_succ, i64_w, i32_w]
                     rfl
                    refine pure_ (i := 11) (N := some 86) (v := ?_) (a' := ?_) #[true, true, true, true, true, true, true, true, true, true, true, true, false] rfl rfl (any_of HT_.out (by kernel_rfl)) (fun _ _ _ h => h) (Or.inl ⟨by rfl, ?_⟩) ?_ ?_
                    rotate_left
                    ·intro w'
                     go_simp
                     with_reducible rfl
                    rotate_left
                    ·simp only [Act.put, List.setIfInBounds_toArray, List.set_cons_zero, List.set_cons_succ, i64_w, i32_w]
                     rfl
                    refine pure_ (i := 12) (N := some 87) (v := ?_) (a' := ?_) #[true, true, true, true, true, true, true, true, true, true, true, true, true] rfl rfl (any_of HT_.out (by kernel_rfl)) (fun _ _ _ h => h) (Or.inl ⟨by rfl, ?_⟩) ?_ ?_
                    rotate_left
                    ·intro w'
                     go_simp
                     with_reducible rfl
                    rotate_left
                    ·simp only [Act.put, List.setIfInBounds_toArray, List.set_cons_zero, List.set_cons_succ, i64_w, i32_w]
                     rfl
                    refine done_ (done_of HT_.out (by kernel_rfl)) ?_
                    try go_wp2
                    go_roundg k4
                    case measure => have := HJ1.out; have := HK2.out; have := HK3.out; have := HK4.out; omega
                    case rel => exact ⟨(wrap64 (x64_4 + 1)), (by first | rfl | (simp; done) | (simp [*]; done)), H', ⟨by have := HJ1.out; have := HK2.out; have := HK3.out; have := HK4.out; omega⟩, ⟨by (with_reducible repeat (first | refine blk_drewN ?_ _ | refine blk_drew ?_ | refine blk_alloc ?_ _)); exact BK152.out⟩, ⟨hbk⟩⟩
                   ·replace c55 := Bool.eq_false_iff.mpr c55
                    subst c55
                    have H1 : (some 8) = some r := by rw [if_neg (show ¬ (false = true) by decide)] at H; exact H
                    clear H
                    have H := H1
                    clear H1
                    obtain rfl := Option.some.inj H
                    have p158 : 0 ≤ (x64_4 : Int) := of_decide_eq_true (by first | (with_reducible assumption) | assumption)
                    have q158 : x64_4 < (l0_2.length : Int) := of_decide_eq_true (by first | (with_reducible assumption) | assumption)
                    obtain ⟨ad158, e158, hx158_0, hx158_1, hx158_2, hx158_3, hx158_4, hx158_5, hx158_6, hx158_7, hx158_8⟩ := at_T73 HR0_2.out x64_4 p158 q158
                    cases e158
                    replace hx158_0 := (HB.out.cell (World.block_lt_of_cell? w _ hx158_0)).trans hx158_0
                    replace hx158_1 := (HB.out.cell (World.block_lt_of_cell? w _ hx158_1)).trans hx158_1
                    replace hx158_2 := (HB.out.cell (World.block_lt_of_cell? w _ hx158_2)).trans hx158_2
                    replace hx158_3 := (HB.out.cell (World.block_lt_of_cell? w _ hx158_3)).trans hx158_3
                    replace hx158_4 := (HB.out.cell (World.block_lt_of_cell? w _ hx158_4)).trans hx158_4
                    replace hx158_5 := (HB.out.cell (World.block_lt_of_cell? w _ hx158_5)).trans hx158_5
                    replace hx158_6 := (HB.out.cell (World.block_lt_of_cell? w _ hx158_6)).trans hx158_6
                    replace hx158_7 := (HB.out.cell (World.block_lt_of_cell? w _ hx158_7)).trans hx158_7
                    replace hx158_8 := (HB.out.cell (World.block_lt_of_cell? w _ hx158_8)).trans hx158_8
                    replace p158 := eq_true p158
                    replace q158 := eq_true q158
                    try go_wp2_with (first | ((with_reducible refine gate_dst (N := 9) rfl ?_); (try (refine gate_guard (by rfl) ?_; dsimp only)); refine box_event ?hg (N := 9) ?hd (cs := #[.string (⟨#[]⟩ : ByteArray), .string (⟨#[]⟩ : ByteArray), .string (⟨#[]⟩ : ByteArray), .int .i64 0, .int .i64 0, .string (⟨#[]⟩ : ByteArray), .int .i64 0, .int .i64 0, .int .i64 0]) (t := 73) ?hr ?_; (case hd => rfl); (case hg => rfl); (case hr => first | (go_simp; done) | (go_simp; rfl)); intro gb159 hg w63 hbox hb; have BK159 := Aside0.mk hbox; have GE159 := Aside0.mk ((by rw [hg]; exact (below_size hbk) : w.heap.size ≤ gb159)); have NB152_159 := Aside0.mk ((by rw [hg]; exact Nat.ne_of_lt (blk_ltB BK152.out) : gb152 ≠ gb159)); have NB159_152 := Aside0.mk ((by rw [hg]; exact Nat.ne_of_gt (blk_ltB BK152.out) : gb159 ≠ gb152)); replace BK152 := Aside0.mk (blk_belowB BK152.out hb); replace HB := Aside0.mk (below_step hbk hb); clear hb hbox hg; have hnb64 := NB159_152.out; have hnc64 := NB152_159.out; obtain ⟨hcz65_0, hcz65_1, hcz65_2, hcz65_3, hcz65_4, hcz65_5, hcz65_6, hcz65_7, hcz65_8⟩ := blk_cs9 BK159.out; obtain ⟨hfz65_0, hfz65_1, hfz65_2, hfz65_3, hfz65_4, hfz65_5, hfz65_6, hfz65_7, hfz65_8⟩ := blk_fs9 BK159.out; obtain ⟨hcz66_0, hcz66_1, hcz66_2⟩ := blk_cs3 BK152.out; obtain ⟨hfz66_0, hfz66_1, hfz66_2⟩ := blk_fs3 BK152.out) | ((with_reducible refine gate_callee (f := 75) rfl ?_); refine goesL_ (some 71) rfl rfl Tryz.func75 (by kernel_rfl) rfl #[.agg #[.slice A0_0 l0_0.length c0_0, .slice A0_1 l0_1.length c0_1, .slice (some ad158) l0_2.length c0_2], .agg #[.string ((rd_T73 l0_2 x64_4).f0), .string ((rd_T73 l0_2 x64_4).f1), .string ((rd_T73 l0_2 x64_4).f2), .int .i64 ((rd_T73 l0_2 x64_4).f3), .int .i64 ((rd_T73 l0_2 x64_4).f4), .string ((rd_T73 l0_2 x64_4).f5), .int .i64 ((rd_T73 l0_2 x64_4).f6.f0), .int .i64 ((rd_T73 l0_2 x64_4).f6.f1), .int .i64 ((rd_T73 l0_2 x64_4).f6.f2)]] rfl hgl ?_; (with_reducible refine (timetable_checkFlight.calls k4 _ _ l0_0 _ _ l0_1 _ _ l0_2 ((rd_T73 l0_2 x64_4).f0) ((rd_T73 l0_2 x64_4).f1) ((rd_T73 l0_2 x64_4).f2) ((rd_T73 l0_2 x64_4).f3) ((rd_T73 l0_2 x64_4).f4) ((rd_T73 l0_2 x64_4).f5) ((rd_T73 l0_2 x64_4).f6.f0) ((rd_T73 l0_2 x64_4).f6.f1) ((rd_T73 l0_2 x64_4).f6.f2) t160 _ ?side1 ?side2 ?side3 ?side4 ?side5 ?side6 A48.out).mono ?_); (case side1 => exact Kd.C_below HR0_0.out hbk); (case side2 => exact HC0_0.out); (case side3 => exact Kd.C_below HR0_1.out hbk); (case side4 => exact HC0_1.out); (case side5 => exact Kd.C_below HR0_2.out hbk); (case side6 => exact HC0_2.out); rintro e w67 ⟨rfl, hb⟩; refine ⟨_, rfl, ?_⟩; have n0_ := Aside0.mk (blk_belowB BK152.out hb); have n1_ := Aside0.mk (blk_below (g := gb159) (o := .cells #[.string ((rd_T73 l0_2 x64_4).f0), .string ((rd_T73 l0_2 x64_4).f1), .string ((rd_T73 l0_2 x64_4).f2), .int .i64 ((rd_T73 l0_2 x64_4).f3), .int .i64 ((rd_T73 l0_2 x64_4).f4), .string ((rd_T73 l0_2 x64_4).f5), .int .i64 ((rd_T73 l0_2 x64_4).f6.f0), .int .i64 ((rd_T73 l0_2 x64_4).f6.f1), .int .i64 ((rd_T73 l0_2 x64_4).f6.f2)] 73 (0, 0)) (by (with_reducible repeat (first | refine blk_drewN ?_ _ | refine blk_drew ?_ | refine blk_alloc ?_ _)); refine blk_put (cs := #[.string ((rd_T73 l0_2 x64_4).f0), .string ((rd_T73 l0_2 x64_4).f1), .string ((rd_T73 l0_2 x64_4).f2), .int .i64 ((rd_T73 l0_2 x64_4).f3), .int .i64 ((rd_T73 l0_2 x64_4).f4), .string ((rd_T73 l0_2 x64_4).f5), .int .i64 ((rd_T73 l0_2 x64_4).f6.f0), .int .i64 ((rd_T73 l0_2 x64_4).f6.f1), .int .i64 0]) ?_ 8 _ rfl; refine blk_put (cs := #[.string ((rd_T73 l0_2 x64_4).f0), .string ((rd_T73 l0_2 x64_4).f1), .string ((rd_T73 l0_2 x64_4).f2), .int .i64 ((rd_T73 l0_2 x64_4).f3), .int .i64 ((rd_T73 l0_2 x64_4).f4), .string ((rd_T73 l0_2 x64_4).f5), .int .i64 ((rd_T73 l0_2 x64_4).f6.f0), .int .i64 0, .int .i64 0]) ?_ 7 _ rfl; refine blk_put (cs := #[.string ((rd_T73 l0_2 x64_4).f0), .string ((rd_T73 l0_2 x64_4).f1), .string ((rd_T73 l0_2 x64_4).f2), .int .i64 ((rd_T73 l0_2 x64_4).f3), .int .i64 ((rd_T73 l0_2 x64_4).f4), .string ((rd_T73 l0_2 x64_4).f5), .int .i64 0, .int .i64 0, .int .i64 0]) ?_ 6 _ rfl; refine blk_put (cs := #[.string ((rd_T73 l0_2 x64_4).f0), .string ((rd_T73 l0_2 x64_4).f1), .string ((rd_T73 l0_2 x64_4).f2), .int .i64 ((rd_T73 l0_2 x64_4).f3), .int .i64 ((rd_T73 l0_2 x64_4).f4), .string (⟨#[]⟩ : ByteArray), .int .i64 0, .int .i64 0, .int .i64 0]) ?_ 5 _ rfl; refine blk_put (cs := #[.string ((rd_T73 l0_2 x64_4).f0), .string ((rd_T73 l0_2 x64_4).f1), .string ((rd_T73 l0_2 x64_4).f2), .int .i64 ((rd_T73 l0_2 x64_4).f3), .int .i64 0, .string (⟨#[]⟩ : ByteArray), .int .i64 0, .int .i64 0, .int .i64 0]) ?_ 4 _ rfl; refine blk_put (cs := #[.string ((rd_T73 l0_2 x64_4).f0), .string ((rd_T73 l0_2 x64_4).f1), .string ((rd_T73 l0_2 x64_4).f2), .int .i64 0, .int .i64 0, .string (⟨#[]⟩ : ByteArray), .int .i64 0, .int .i64 0, .int .i64 0]) ?_ 3 _ rfl; refine blk_put (cs := #[.string ((rd_T73 l0_2 x64_4).f0), .string ((rd_T73 l0_2 x64_4).f1), .string (⟨#[]⟩ : ByteArray), .int .i64 0, .int .i64 0, .string (⟨#[]⟩ : ByteArray), .int .i64 0, .int .i64 0, .int .i64 0]) ?_ 2 _ rfl; refine blk_put (cs := #[.string ((rd_T73 l0_2 x64_4).f0), .string (⟨#[]⟩ : ByteArray), .string (⟨#[]⟩ : ByteArray), .int .i64 0, .int .i64 0, .string (⟨#[]⟩ : ByteArray), .int .i64 0, .int .i64 0, .int .i64 0]) ?_ 1 _ rfl; refine blk_put (cs := #[.string (⟨#[]⟩ : ByteArray), .string (⟨#[]⟩ : ByteArray), .string (⟨#[]⟩ : ByteArray), .int .i64 0, .int .i64 0, .string (⟨#[]⟩ : ByteArray), .int .i64 0, .int .i64 0, .int .i64 0]) ?_ 0 _ rfl; (with_reducible repeat (first | refine blk_drewN ?_ _ | refine blk_drew ?_ | refine blk_alloc ?_ _)); exact BK159.out) hb); have n2_ := Aside0.mk (below_step hbk hb); clear BK152; clear BK159; clear HB; have BK152 := n0_; have BK159 := n1_; have HB := n2_; clear n0_ n1_ n2_; (try clear hb); (try clear hb2); (try clear hk); (try clear hi)))
                    replace BK152 := Aside0.mk (blk_drew BK152.out)
                    replace BK159 := Aside0.mk (blk_drew BK159.out)
                    replace HB := Aside0.mk (below_drew1 HB.out)
                    have p161 : 0 ≤ ((ji51) : Int) := of_decide_eq_true (by first | (with_reducible assumption) | assumption)
                    have q161 : (ji51) < (l0_2.length : Int) := of_decide_eq_true (by first | (with_reducible assumption) | assumption)
                    obtain ⟨ad161, e161, hx161_0, hx161_1, hx161_2, hx161_3, hx161_4, hx161_5, hx161_6, hx161_7, hx161_8⟩ := at_T73 HR0_2.out (ji51) p161 q161
                    have hw161_8 := hx161_8
                    have hw161_7 := hx161_7
                    have hw161_6 := hx161_6
                    have hw161_5 := hx161_5
                    have hw161_4 := hx161_4
                    have hw161_3 := hx161_3
                    have hw161_2 := hx161_2
                    have hw161_1 := hx161_1
                    have hw161_0 := hx161_0
                    obtain rfl : ad158 = ad161 := (by injection e161)
                    replace hx161_0 := (HB.out.cell (World.block_lt_of_cell? w _ hx161_0)).trans hx161_0
                    replace hx161_1 := (HB.out.cell (World.block_lt_of_cell? w _ hx161_1)).trans hx161_1
                    replace hx161_2 := (HB.out.cell (World.block_lt_of_cell? w _ hx161_2)).trans hx161_2
                    replace hx161_3 := (HB.out.cell (World.block_lt_of_cell? w _ hx161_3)).trans hx161_3
                    replace hx161_4 := (HB.out.cell (World.block_lt_of_cell? w _ hx161_4)).trans hx161_4
                    replace hx161_5 := (HB.out.cell (World.block_lt_of_cell? w _ hx161_5)).trans hx161_5
                    replace hx161_6 := (HB.out.cell (World.block_lt_of_cell? w _ hx161_6)).trans hx161_6
                    replace hx161_7 := (HB.out.cell (World.block_lt_of_cell? w _ hx161_7)).trans hx161_7
                    replace hx161_8 := (HB.out.cell (World.block_lt_of_cell? w _ hx161_8)).trans hx161_8
                    replace p161 := eq_true p161
                    replace q161 := eq_true q161
                    refine start_ (n := 13) (S := fun w' => w'.cell? ⟨gb159, 0, none⟩ = some (.string ((rd_T73 l0_2 x64_4).f0)) ∧ w'.cell? ⟨gb159, 1, none⟩ = some (.string ((rd_T73 l0_2 x64_4).f1)) ∧ w'.cell? ⟨gb159, 2, none⟩ = some (.string ((rd_T73 l0_2 x64_4).f2)) ∧ w'.cell? ⟨gb159, 3, none⟩ = some (.int .i64 ((rd_T73 l0_2 x64_4).f3)) ∧ w'.cell? ⟨gb159, 4, none⟩ = some (.int .i64 ((rd_T73 l0_2 x64_4).f4)) ∧ w'.cell? ⟨gb159, 5, none⟩ = some (.string ((rd_T73 l0_2 x64_4).f5)) ∧ w'.cell? ⟨gb159, 6, none⟩ = some (.int .i64 ((rd_T73 l0_2 x64_4).f6.f0)) ∧ w'.cell? ⟨gb159, 7, none⟩ = some (.int .i64 ((rd_T73 l0_2 x64_4).f6.f1)) ∧ w'.cell? ⟨gb159, 8, none⟩ = some (.int .i64 ((rd_T73 l0_2 x64_4).f6.f2)) ∧ w'.cell? ⟨gb152, 0, none⟩ = some (.slice A0_0 l0_0.length c0_0) ∧ w'.cell? ⟨gb152, 1, none⟩ = some (.slice A0_1 l0_1.length c0_1) ∧ w'.cell? ⟨gb152, 2, none⟩ = some (.slice (some ad158) l0_2.length c0_2) ∧ w'.cell? (ad158.add (((ji51)).toNat * 9)) = some (.string ((rd_T73 l0_2 (ji51)).f0)) ∧ w'.cell? ⟨(ad158.add (((ji51)).toNat * 9)).block, (ad158.add (((ji51)).toNat * 9)).off + 1, none⟩ = some (.string ((rd_T73 l0_2 (ji51)).f1)) ∧ w'.cell? ⟨(ad158.add (((ji51)).toNat * 9)).block, (ad158.add (((ji51)).toNat * 9)).off + 2, none⟩ = some (.string ((rd_T73 l0_2 (ji51)).f2)) ∧ w'.cell? ⟨(ad158.add (((ji51)).toNat * 9)).block, (ad158.add (((ji51)).toNat * 9)).off + 3, none⟩ = some (.int .i64 ((rd_T73 l0_2 (ji51)).f3)) ∧ w'.cell? ⟨(ad158.add (((ji51)).toNat * 9)).block, (ad158.add (((ji51)).toNat * 9)).off + 4, none⟩ = some (.int .i64 ((rd_T73 l0_2 (ji51)).f4)) ∧ w'.cell? ⟨(ad158.add (((ji51)).toNat * 9)).block, (ad158.add (((ji51)).toNat * 9)).off + 5, none⟩ = some (.string ((rd_T73 l0_2 (ji51)).f5)) ∧ w'.cell? ⟨(ad158.add (((ji51)).toNat * 9)).block, (ad158.add (((ji51)).toNat * 9)).off + 6, none⟩ = some (.int .i64 ((rd_T73 l0_2 (ji51)).f6.f0)) ∧ w'.cell? ⟨(ad158.add (((ji51)).toNat * 9)).block, (ad158.add (((ji51)).toNat * 9)).off + 7, none⟩ = some (.int .i64 ((rd_T73 l0_2 (ji51)).f6.f1)) ∧ w'.cell? ⟨(ad158.add (((ji51)).toNat * 9)).block, (ad158.add (((ji51)).toNat * 9)).off + 8, none⟩ = some (.int .i64 ((rd_T73 l0_2 (ji51)).f6.f2))) (ds := []) #[false, false, false, false, false, false, false, false, false, false, false, false, false] (by kernel_rfl) rfl rfl ⟨(blk_cell BK159.out 0).trans rfl, (blk_cell BK159.out 1).trans rfl, (blk_cell BK159.out 2).trans rfl, (blk_cell BK159.out 3).trans rfl, (blk_cell BK159.out 4).trans rfl, (blk_cell BK159.out 5).trans rfl, (blk_cell BK159.out 6).trans rfl, (blk_cell BK159.out 7).trans rfl, (blk_cell BK159.out 8).trans rfl, (blk_cell BK152.out 0).trans rfl, (blk_cell BK152.out 1).trans rfl, (blk_cell BK152.out 2).trans rfl, ((HB.out.cell (World.block_lt_of_cell? w _ hw161_0)).trans hw161_0), ((HB.out.cell (World.block_lt_of_cell? w _ hw161_1)).trans hw161_1), ((HB.out.cell (World.block_lt_of_cell? w _ hw161_2)).trans hw161_2), ((HB.out.cell (World.block_lt_of_cell? w _ hw161_3)).trans hw161_3), ((HB.out.cell (World.block_lt_of_cell? w _ hw161_4)).trans hw161_4), ((HB.out.cell (World.block_lt_of_cell? w _ hw161_5)).trans hw161_5), ((HB.out.cell (World.block_lt_of_cell? w _ hw161_6)).trans hw161_6), ((HB.out.cell (World.block_lt_of_cell? w _ hw161_7)).trans hw161_7), ((HB.out.cell (World.block_lt_of_cell? w _ hw161_8)).trans hw161_8)⟩ (fun hHeld => ?_); refine with_tabW timetable_Validate.tab25 timetable_Validate.bits25 (fun HT_ HW_ => ?_)
                    generalize w67.drew = w68 at BK152 BK159 HB hx161_0 hx161_1 hx161_2 hx161_3 hx161_4 hx161_5 hx161_6 hx161_7 hx161_8 hHeld ⊢
                    refine pure_ (i := 0) (N := some 75) (v := ?_) (a' := ?_) #[true, false, false, false, false, false, false, false, false, false, false, false, false] rfl rfl (any_of HT_.out (by kernel_rfl)) (fun _ _ _ h => h) (Or.inl ⟨by rfl, ?_⟩) ?_ ?_
                    rotate_left
                    ·intro w'
                     go_simp
                     with_reducible rfl
                    rotate_left
                    ·simp only [Act.put, List.setIfInBounds_toArray, List.set_cons_zero, List.set_cons_succ, i64_w, i32_w]
                     rfl
                    refine pure_ (i := 1) (N := some 76) (v := ?_) (a' := ?_) #[true, true, false, false, false, false, false, false, false, false, false, false, false] rfl rfl (any_of HT_.out (by kernel_rfl)) (fun _ _ _ h => h) (Or.inl ⟨by rfl, ?_⟩) ?_ ?_
                    rotate_left
                    ·intro w'
                     go_simp
                     with_reducible rfl
                    rotate_left
                    ·simp only [Act.put, List.setIfInBounds_toArray, List.set_cons_zero, List.set_cons_succ, i64_w, i32_w]
                     rfl
                    refine pure_ (i := 2) (N := some 77) (v := ?_) (a' := ?_) #[true, true, true, false, false, false, false, false, false, false, false, false, false] rfl rfl (any_of HT_.out (by kernel_rfl)) (fun _ _ _ h => h) (Or.inl ⟨by rfl, ?_⟩) ?_ ?_
                    rotate_left
                    ·intro w'
                     go_simp
                     with_reducible rfl
                    rotate_left
                    ·simp only [Act.put, List.setIfInBounds_toArray, List.set_cons_zero, List.set_cons_succ, i64_w, i32_w]
                     rfl
                    refine pure_ (i := 4) (N := some 79) (v := ?_) (a' := ?_) #[true, true, true, false, true, false, false, false, false, false, false, false, false] rfl rfl (any_of HT_.out (by kernel_rfl)) (fun _ _ _ h => h) (Or.inl ⟨by rfl, ?_⟩) ?_ ?_
                    rotate_left
                    ·intro w'
                     go_simp
                     with_reducible rfl
                    rotate_left
                    ·simp only [Act.put, List.setIfInBounds_toArray, List.set_cons_zero, List.set_cons_succ, i64_w, i32_w]
                     rfl
                    refine pure_ (i := 6) (N := some 81) (v := ?_) (a' := ?_) #[true, true, true, false, true, false, true, false, false, false, false, false, false] rfl rfl (any_of HT_.out (by kernel_rfl)) (fun _ _ _ h => h) (Or.inl ⟨by rfl, ?_⟩) ?_ ?_
                    rotate_left
                    ·intro w'
                     go_simp
                     with_reducible rfl
                    rotate_left
                    ·simp only [Act.put, List.setIfInBounds_toArray, List.set_cons_zero, List.set_cons_succ, i64_w, i32_w]
                     rfl
                    refine pure_ (i := 7) (N := some 82) (v := ?_) (a' := ?_) #[true, true, true, false, true, false, true, true, false, false, false, false, false] rfl rfl (any_of HT_.out (by kernel_rfl)) (fun _ _ _ h => h) (Or.inl ⟨by rfl, ?_⟩) ?_ ?_
                    rotate_left
                    ·intro w'
                     go_simp
                     with_reducible rfl
                    rotate_left
                    ·simp only [Act.put, List.setIfInBounds_toArray, List.set_cons_zero, List.set_cons_succ, i64_w, i32_w]
                     rfl
                    refine take_ (i := 3) (N := some 78) (v := ?_) (a' := ?_) #[true, true, true, true, true, false, true, true, false, false, false, false, false] rfl rfl (take_ofW HT_.out HW_.out (by kernel_rfl)) (fun _ _ _ h => h) (Or.inl ⟨by rfl, ?_⟩) hHeld ?_ ?_
                    rotate_left
                    ·rintro w' ⟨s0, s1, s2, s3, s4, s5, s6, s7, s8, s9, s10, s11, s12, s13, s14, s15, s16, s17, s18, s19, s20⟩
                     go_simp
                     with_reducible rfl
                    rotate_left
                    ·simp only [Act.put, List.setIfInBounds_toArray, List.set_cons_zero, List.set_cons_succ, i64_w, i32_w]
                     rfl
                    refine take_ (i := 5) (N := some 80) (v := ?_) (a' := ?_) #[true, true, true, true, true, true, true, true, false, false, false, false, false] rfl rfl (take_ofW HT_.out HW_.out (by kernel_rfl)) (fun _ _ _ h => h) (Or.inl ⟨by rfl, ?_⟩) hHeld ?_ ?_
                    rotate_left
                    ·rintro w' ⟨s0, s1, s2, s3, s4, s5, s6, s7, s8, s9, s10, s11, s12, s13, s14, s15, s16, s17, s18, s19, s20⟩
                     go_simp
                     with_reducible rfl
                    rotate_left
                    ·simp only [Act.put, List.setIfInBounds_toArray, List.set_cons_zero, List.set_cons_succ, i64_w, i32_w]
                     rfl
                    refine pure_ (i := 8) (N := some 83) (v := ?_) (a' := ?_) #[true, true, true, true, true, true, true, true, true, false, false, false, false] rfl rfl (any_of HT_.out (by kernel_rfl)) (fun _ _ _ h => h) (Or.inl ⟨by rfl, ?_⟩) ?_ ?_
                    rotate_left
                    ·intro w'
                     go_simp
                     with_reducible rfl
                    rotate_left
                    ·simp only [Act.put, List.setIfInBounds_toArray, List.set_cons_zero, List.set_cons_succ, i64_w, i32_w]
                     rfl
                    refine take_ (i := 9) (N := some 84) (v := ?_) (a' := ?_) #[true, true, true, true, true, true, true, true, true, true, false, false, false] rfl rfl (take_ofW HT_.out HW_.out (by kernel_rfl)) (fun _ _ _ h => h) (Or.inl ⟨by rfl, ?_⟩) hHeld ?_ ?_
                    rotate_left
                    ·rintro w' ⟨s0, s1, s2, s3, s4, s5, s6, s7, s8, s9, s10, s11, s12, s13, s14, s15, s16, s17, s18, s19, s20⟩
                     go_simp
                     with_reducible rfl
                    rotate_left
                    ·simp only [Act.put, List.setIfInBounds_toArray, List.set_cons_zero, List.set_cons_succ, i64_w, i32_w]
                     rfl
                    refine one_ (i := 10) (N := some 85) #[true, true, true, true, true, true, true, true, true, true, true, false, false] rfl rfl (one_of HT_.out (by kernel_rfl)) (by decide) (fun K hK => ?_)
                    refine goes_ Tryz.func76 (by kernel_rfl) rfl #[.agg #[.string ((rd_T73 l0_2 x64_4).f0), .string ((rd_T73 l0_2 x64_4).f1), .string ((rd_T73 l0_2 x64_4).f2), .int .i64 ((rd_T73 l0_2 x64_4).f3), .int .i64 ((rd_T73 l0_2 x64_4).f4), .string ((rd_T73 l0_2 x64_4).f5), .int .i64 ((rd_T73 l0_2 x64_4).f6.f0), .int .i64 ((rd_T73 l0_2 x64_4).f6.f1), .int .i64 ((rd_T73 l0_2 x64_4).f6.f2)], .agg #[.string ((rd_T73 l0_2 (ji51)).f0), .string ((rd_T73 l0_2 (ji51)).f1), .string ((rd_T73 l0_2 (ji51)).f2), .int .i64 ((rd_T73 l0_2 (ji51)).f3), .int .i64 ((rd_T73 l0_2 (ji51)).f4), .string ((rd_T73 l0_2 (ji51)).f5), .int .i64 ((rd_T73 l0_2 (ji51)).f6.f0), .int .i64 ((rd_T73 l0_2 (ji51)).f6.f1), .int .i64 ((rd_T73 l0_2 (ji51)).f6.f2)]] (by rfl) rfl rfl (by (try simp only [List.map_toArray, List.map_cons, List.map_nil]); first | done | (simp only [hji51]; rfl) | rfl | (simp only [List.length_drop, List.length_take]; rfl)) ?_
                    with_reducible refine (timetable_after.calls ((rd_T73 l0_2 x64_4).f0) ((rd_T73 l0_2 x64_4).f1) ((rd_T73 l0_2 x64_4).f2) ((rd_T73 l0_2 x64_4).f3) ((rd_T73 l0_2 x64_4).f4) ((rd_T73 l0_2 x64_4).f5) ((rd_T73 l0_2 x64_4).f6.f0) ((rd_T73 l0_2 x64_4).f6.f1) ((rd_T73 l0_2 x64_4).f6.f2) ((rd_T73 l0_2 (ji51)).f0) ((rd_T73 l0_2 (ji51)).f1) ((rd_T73 l0_2 (ji51)).f2) ((rd_T73 l0_2 (ji51)).f3) ((rd_T73 l0_2 (ji51)).f4) ((rd_T73 l0_2 (ji51)).f5) ((rd_T73 l0_2 (ji51)).f6.f0) ((rd_T73 l0_2 (ji51)).f6.f1) ((rd_T73 l0_2 (ji51)).f6.f2) false _ A54.out).mono ?_
                    rintro e w69 ⟨rfl, hb⟩
                    refine ⟨_, rfl, ?_⟩
                    replace BK152 := Aside0.mk (blk_belowB BK152.out hb)
                    replace BK159 := Aside0.mk (blk_belowB BK159.out hb)
                    replace HB := Aside0.mk (below_step hbk hb)
                    (try clear hb)
                    (try clear hb2)
                    (try clear hk)
                    (try clear hi)
                    refine hK.out _ _ ⟨(blk_cell BK159.out 0).trans rfl, (blk_cell BK159.out 1).trans rfl, (blk_cell BK159.out 2).trans rfl, (blk_cell BK159.out 3).trans rfl, (blk_cell BK159.out 4).trans rfl, (blk_cell BK159.out 5).trans rfl, (blk_cell BK159.out 6).trans rfl, (blk_cell BK159.out 7).trans rfl, (blk_cell BK159.out 8).trans rfl, (blk_cell BK152.out 0).trans rfl, (blk_cell BK152.out 1).trans rfl, (blk_cell BK152.out 2).trans rfl, ((HB.out.cell (World.block_lt_of_cell? w _ hw161_0)).trans hw161_0), ((HB.out.cell (World.block_lt_of_cell? w _ hw161_1)).trans hw161_1), ((HB.out.cell (World.block_lt_of_cell? w _ hw161_2)).trans hw161_2), ((HB.out.cell (World.block_lt_of_cell? w _ hw161_3)).trans hw161_3), ((HB.out.cell (World.block_lt_of_cell? w _ hw161_4)).trans hw161_4), ((HB.out.cell (World.block_lt_of_cell? w _ hw161_5)).trans hw161_5), ((HB.out.cell (World.block_lt_of_cell? w _ hw161_6)).trans hw161_6), ((HB.out.cell (World.block_lt_of_cell? w _ hw161_7)).trans hw161_7), ((HB.out.cell (World.block_lt_of_cell? w _ hw161_8)).trans hw161_8)⟩ (fun hHeld => ?_)
                    clear hK K
                    refine norm_ (a' := ?_) ?_ ?_
                    rotate_left
                    ·show Act.put _ (some 85) _ = _
                     simp only [Act.put, List.setIfInBounds_toArray, List.set_cons_zero, List.set_cons_succ, i64_w, i32_w]
                     rfl
                    refine pure_ (i := 11) (N := some 86) (v := ?_) (a' := ?_) #[true, true, true, true, true, true, true, true, true, true, true, true, false] rfl rfl (any_of HT_.out (by kernel_rfl)) (fun _ _ _ h => h) (Or.inl ⟨by rfl, ?_⟩) ?_ ?_
                    rotate_left
                    ·intro w'
                     go_simp
                     with_reducible rfl
                    rotate_left
                    ·simp only [Act.put, List.setIfInBounds_toArray, List.set_cons_zero, List.set_cons_succ, i64_w, i32_w]
                     rfl
                    refine pure_ (i := 12) (N := some 87) (v := ?_) (a' := ?_) #[true, true, true, true, true, true, true, true, true, true, true, true, true] rfl rfl (any_of HT_.out (by kernel_rfl)) (fun _ _ _ h => h) (Or.inl ⟨by rfl, ?_⟩) ?_ ?_
                    rotate_left
                    ·intro w'
                     go_simp
                     with_reducible rfl
                    rotate_left
                    ·simp only [Act.put, List.setIfInBounds_toArray, List.set_cons_zero, List.set_cons_succ, i64_w, i32_w]
                     rfl
                    refine done_ (done_of HT_.out (by kernel_rfl)) ?_
                    try go_wp2
                    go_ret
                    exact ⟨by first | rfl | (simp [errW_none, errW_some] <;> rfl) | (simp only [← hji51]; first | rfl | (simp [errW_none, errW_some] <;> rfl)) | (simp [*, errW_none, errW_some] <;> rfl), hbk⟩
                  ·rw [if_neg c53] at H
                   exact absurd H (by simp)
                 ·rw [if_neg c52] at H
                  exact absurd H (by simp)
                ·rw [if_neg c50] at H
                 have c50b0 : decide (0 < x64_4) = false := decide_eq_false c50
                 clear c50
                 have H' := Aside0.mk H
                 clear H
                 have p158 : 0 ≤ (x64_4 : Int) := of_decide_eq_true (by first | (with_reducible assumption) | assumption)
                 have q158 : x64_4 < (l0_2.length : Int) := of_decide_eq_true (by first | (with_reducible assumption) | assumption)
                 obtain ⟨ad158, e158, hx158_0, hx158_1, hx158_2, hx158_3, hx158_4, hx158_5, hx158_6, hx158_7, hx158_8⟩ := at_T73 HR0_2.out x64_4 p158 q158
                 cases e158
                 replace hx158_0 := (HB.out.cell (World.block_lt_of_cell? w _ hx158_0)).trans hx158_0
                 replace hx158_1 := (HB.out.cell (World.block_lt_of_cell? w _ hx158_1)).trans hx158_1
                 replace hx158_2 := (HB.out.cell (World.block_lt_of_cell? w _ hx158_2)).trans hx158_2
                 replace hx158_3 := (HB.out.cell (World.block_lt_of_cell? w _ hx158_3)).trans hx158_3
                 replace hx158_4 := (HB.out.cell (World.block_lt_of_cell? w _ hx158_4)).trans hx158_4
                 replace hx158_5 := (HB.out.cell (World.block_lt_of_cell? w _ hx158_5)).trans hx158_5
                 replace hx158_6 := (HB.out.cell (World.block_lt_of_cell? w _ hx158_6)).trans hx158_6
                 replace hx158_7 := (HB.out.cell (World.block_lt_of_cell? w _ hx158_7)).trans hx158_7
                 replace hx158_8 := (HB.out.cell (World.block_lt_of_cell? w _ hx158_8)).trans hx158_8
                 replace p158 := eq_true p158
                 replace q158 := eq_true q158
                 try go_wp2_with (first | ((with_reducible refine gate_dst (N := 9) rfl ?_); (try (refine gate_guard (by rfl) ?_; dsimp only)); refine box_event ?hg (N := 9) ?hd (cs := #[.string (⟨#[]⟩ : ByteArray), .string (⟨#[]⟩ : ByteArray), .string (⟨#[]⟩ : ByteArray), .int .i64 0, .int .i64 0, .string (⟨#[]⟩ : ByteArray), .int .i64 0, .int .i64 0, .int .i64 0]) (t := 73) ?hr ?_; (case hd => rfl); (case hg => rfl); (case hr => first | (go_simp; done) | (go_simp; rfl)); intro gb159 hg w70 hbox hb; have BK159 := Aside0.mk hbox; have GE159 := Aside0.mk ((by rw [hg]; exact (below_size hbk) : w.heap.size ≤ gb159)); have NB152_159 := Aside0.mk ((by rw [hg]; exact Nat.ne_of_lt (blk_ltB BK152.out) : gb152 ≠ gb159)); have NB159_152 := Aside0.mk ((by rw [hg]; exact Nat.ne_of_gt (blk_ltB BK152.out) : gb159 ≠ gb152)); replace BK152 := Aside0.mk (blk_belowB BK152.out hb); replace HB := Aside0.mk (below_step hbk hb); clear hb hbox hg; have hnb71 := NB159_152.out; have hnc71 := NB152_159.out; obtain ⟨hcz72_0, hcz72_1, hcz72_2, hcz72_3, hcz72_4, hcz72_5, hcz72_6, hcz72_7, hcz72_8⟩ := blk_cs9 BK159.out; obtain ⟨hfz72_0, hfz72_1, hfz72_2, hfz72_3, hfz72_4, hfz72_5, hfz72_6, hfz72_7, hfz72_8⟩ := blk_fs9 BK159.out; obtain ⟨hcz73_0, hcz73_1, hcz73_2⟩ := blk_cs3 BK152.out; obtain ⟨hfz73_0, hfz73_1, hfz73_2⟩ := blk_fs3 BK152.out) | ((with_reducible refine gate_callee (f := 75) rfl ?_); refine goesL_ (some 71) rfl rfl Tryz.func75 (by kernel_rfl) rfl #[.agg #[.slice A0_0 l0_0.length c0_0, .slice A0_1 l0_1.length c0_1, .slice (some ad158) l0_2.length c0_2], .agg #[.string ((rd_T73 l0_2 x64_4).f0), .string ((rd_T73 l0_2 x64_4).f1), .string ((rd_T73 l0_2 x64_4).f2), .int .i64 ((rd_T73 l0_2 x64_4).f3), .int .i64 ((rd_T73 l0_2 x64_4).f4), .string ((rd_T73 l0_2 x64_4).f5), .int .i64 ((rd_T73 l0_2 x64_4).f6.f0), .int .i64 ((rd_T73 l0_2 x64_4).f6.f1), .int .i64 ((rd_T73 l0_2 x64_4).f6.f2)]] rfl hgl ?_; (with_reducible refine (timetable_checkFlight.calls k4 _ _ l0_0 _ _ l0_1 _ _ l0_2 ((rd_T73 l0_2 x64_4).f0) ((rd_T73 l0_2 x64_4).f1) ((rd_T73 l0_2 x64_4).f2) ((rd_T73 l0_2 x64_4).f3) ((rd_T73 l0_2 x64_4).f4) ((rd_T73 l0_2 x64_4).f5) ((rd_T73 l0_2 x64_4).f6.f0) ((rd_T73 l0_2 x64_4).f6.f1) ((rd_T73 l0_2 x64_4).f6.f2) t160 _ ?side1 ?side2 ?side3 ?side4 ?side5 ?side6 A48.out).mono ?_); (case side1 => exact Kd.C_below HR0_0.out hbk); (case side2 => exact HC0_0.out); (case side3 => exact Kd.C_below HR0_1.out hbk); (case side4 => exact HC0_1.out); (case side5 => exact Kd.C_below HR0_2.out hbk); (case side6 => exact HC0_2.out); rintro e w74 ⟨rfl, hb⟩; refine ⟨_, rfl, ?_⟩; have n0_ := Aside0.mk (blk_belowB BK152.out hb); have n1_ := Aside0.mk (blk_below (g := gb159) (o := .cells #[.string ((rd_T73 l0_2 x64_4).f0), .string ((rd_T73 l0_2 x64_4).f1), .string ((rd_T73 l0_2 x64_4).f2), .int .i64 ((rd_T73 l0_2 x64_4).f3), .int .i64 ((rd_T73 l0_2 x64_4).f4), .string ((rd_T73 l0_2 x64_4).f5), .int .i64 ((rd_T73 l0_2 x64_4).f6.f0), .int .i64 ((rd_T73 l0_2 x64_4).f6.f1), .int .i64 ((rd_T73 l0_2 x64_4).f6.f2)] 73 (0, 0)) (by (with_reducible repeat (first | refine blk_drewN ?_ _ | refine blk_drew ?_ | refine blk_alloc ?_ _)); refine blk_put (cs := #[.string ((rd_T73 l0_2 x64_4).f0), .string ((rd_T73 l0_2 x64_4).f1), .string ((rd_T73 l0_2 x64_4).f2), .int .i64 ((rd_T73 l0_2 x64_4).f3), .int .i64 ((rd_T73 l0_2 x64_4).f4), .string ((rd_T73 l0_2 x64_4).f5), .int .i64 ((rd_T73 l0_2 x64_4).f6.f0), .int .i64 ((rd_T73 l0_2 x64_4).f6.f1), .int .i64 0]) ?_ 8 _ rfl; refine blk_put (cs := #[.string ((rd_T73 l0_2 x64_4).f0), .string ((rd_T73 l0_2 x64_4).f1), .string ((rd_T73 l0_2 x64_4).f2), .int .i64 ((rd_T73 l0_2 x64_4).f3), .int .i64 ((rd_T73 l0_2 x64_4).f4), .string ((rd_T73 l0_2 x64_4).f5), .int .i64 ((rd_T73 l0_2 x64_4).f6.f0), .int .i64 0, .int .i64 0]) ?_ 7 _ rfl; refine blk_put (cs := #[.string ((rd_T73 l0_2 x64_4).f0), .string ((rd_T73 l0_2 x64_4).f1), .string ((rd_T73 l0_2 x64_4).f2), .int .i64 ((rd_T73 l0_2 x64_4).f3), .int .i64 ((rd_T73 l0_2 x64_4).f4), .string ((rd_T73 l0_2 x64_4).f5), .int .i64 0, .int .i64 0, .int .i64 0]) ?_ 6 _ rfl; refine blk_put (cs := #[.string ((rd_T73 l0_2 x64_4).f0), .string ((rd_T73 l0_2 x64_4).f1), .string ((rd_T73 l0_2 x64_4).f2), .int .i64 ((rd_T73 l0_2 x64_4).f3), .int .i64 ((rd_T73 l0_2 x64_4).f4), .string (⟨#[]⟩ : ByteArray), .int .i64 0, .int .i64 0, .int .i64 0]) ?_ 5 _ rfl; refine blk_put (cs := #[.string ((rd_T73 l0_2 x64_4).f0), .string ((rd_T73 l0_2 x64_4).f1), .string ((rd_T73 l0_2 x64_4).f2), .int .i64 ((rd_T73 l0_2 x64_4).f3), .int .i64 0, .string (⟨#[]⟩ : ByteArray), .int .i64 0, .int .i64 0, .int .i64 0]) ?_ 4 _ rfl; refine blk_put (cs := #[.string ((rd_T73 l0_2 x64_4).f0), .string ((rd_T73 l0_2 x64_4).f1), .string ((rd_T73 l0_2 x64_4).f2), .int .i64 0, .int .i64 0, .string (⟨#[]⟩ : ByteArray), .int .i64 0, .int .i64 0, .int .i64 0]) ?_ 3 _ rfl; refine blk_put (cs := #[.string ((rd_T73 l0_2 x64_4).f0), .string ((rd_T73 l0_2 x64_4).f1), .string (⟨#[]⟩ : ByteArray), .int .i64 0, .int .i64 0, .string (⟨#[]⟩ : ByteArray), .int .i64 0, .int .i64 0, .int .i64 0]) ?_ 2 _ rfl; refine blk_put (cs := #[.string ((rd_T73 l0_2 x64_4).f0), .string (⟨#[]⟩ : ByteArray), .string (⟨#[]⟩ : ByteArray), .int .i64 0, .int .i64 0, .string (⟨#[]⟩ : ByteArray), .int .i64 0, .int .i64 0, .int .i64 0]) ?_ 1 _ rfl; refine blk_put (cs := #[.string (⟨#[]⟩ : ByteArray), .string (⟨#[]⟩ : ByteArray), .string (⟨#[]⟩ : ByteArray), .int .i64 0, .int .i64 0, .string (⟨#[]⟩ : ByteArray), .int .i64 0, .int .i64 0, .int .i64 0]) ?_ 0 _ rfl; (with_reducible repeat (first | refine blk_drewN ?_ _ | refine blk_drew ?_ | refine blk_alloc ?_ _)); exact BK159.out) hb); have n2_ := Aside0.mk (below_step hbk hb); clear BK152; clear BK159; clear HB; have BK152 := n0_; have BK159 := n1_; have HB := n2_; clear n0_ n1_ n2_; (try clear hb); (try clear hb2); (try clear hk); (try clear hi)))
                 replace BK152 := Aside0.mk (blk_drew BK152.out)
                 replace BK159 := Aside0.mk (blk_drew BK159.out)
                 replace HB := Aside0.mk (below_drew1 HB.out)
                 refine start_ (n := 13) (S := fun w' => True) (ds := []) #[false, false, false, false, false, false, false, false, false, false, false, false, false] (by kernel_rfl) rfl rfl trivial (fun hHeld => ?_); refine with_tabW timetable_Validate.tab25 timetable_Validate.bits25 (fun HT_ HW_ => ?_)
                 generalize w74.drew = w75 at BK152 BK159 HB hHeld ⊢
                 refine pure_ (i := 0) (N := some 75) (v := ?_) (a' := ?_) #[true, false, false, false, false, false, false, false, false, false, false, false, false] rfl rfl (any_of HT_.out (by kernel_rfl)) (fun _ _ _ h => h) (Or.inl ⟨by rfl, ?_⟩) ?_ ?_
                 rotate_left
                 ·intro w'
                  go_simp
                  with_reducible rfl
                 rotate_left
                 ·simp only [Act.put, List.setIfInBounds_toArray, List.set_cons_zero, List.set_cons_succ, i64_w, i32_w]
                  rfl
                 refine pure_ (i := 1) (N := some 76) (v := ?_) (a' := ?_) #[true, true, false, false, false, false, false, false, false, false, false, false, false] rfl rfl (any_of HT_.out (by kernel_rfl)) (fun _ _ _ h => h) (Or.inl ⟨by rfl, ?_⟩) ?_ ?_
                 rotate_left
                 ·intro w'
                  go_simp
                  with_reducible rfl
                 rotate_left
                 ·simp only [Act.put, List.setIfInBounds_toArray, List.set_cons_zero, List.set_cons_succ, i64_w, i32_w]
                  rfl
                 refine pure_ (i := 2) (N := some 77) (v := ?_) (a' := ?_) #[true, true, true, false, false, false, false, false, false, false, false, false, false] rfl rfl (any_of HT_.out (by kernel_rfl)) (fun _ _ _ h => h) (Or.inl ⟨by rfl, ?_⟩) ?_ ?_
                 rotate_left
                 ·intro w'
                  go_simp
                  with_reducible rfl
                 rotate_left
                 ·simp only [Act.put, List.setIfInBounds_toArray, List.set_cons_zero, List.set_cons_succ, i64_w, i32_w]
                  rfl
                 refine pure_ (i := 3) (N := some 78) (v := undef) (a' := ?_) #[true, true, true, true, false, false, false, false, false, false, false, false, false] rfl rfl (any_of HT_.out (by kernel_rfl)) (fun _ _ _ h => h) (Or.inr ⟨by rfl, rfl⟩) ?_ ?_
                 rotate_left
                 ·simp only [Act.put, List.setIfInBounds_toArray, List.set_cons_zero, List.set_cons_succ, i64_w, i32_w]
                  rfl
                 refine pure_ (i := 4) (N := some 79) (v := undef) (a' := ?_) #[true, true, true, true, true, false, false, false, false, false, false, false, false] rfl rfl (any_of HT_.out (by kernel_rfl)) (fun _ _ _ h => h) (Or.inr ⟨by rfl, rfl⟩) ?_ ?_
                 rotate_left
                 ·simp only [Act.put, List.setIfInBounds_toArray, List.set_cons_zero, List.set_cons_succ, i64_w, i32_w]
                  rfl
                 refine pure_ (i := 5) (N := some 80) (v := undef) (a' := ?_) #[true, true, true, true, true, true, false, false, false, false, false, false, false] rfl rfl (any_of HT_.out (by kernel_rfl)) (fun _ _ _ h => h) (Or.inr ⟨by rfl, rfl⟩) ?_ ?_
                 rotate_left
                 ·simp only [Act.put, List.setIfInBounds_toArray, List.set_cons_zero, List.set_cons_succ, i64_w, i32_w]
                  rfl
                 refine pure_ (i := 6) (N := some 81) (v := undef) (a' := ?_) #[true, true, true, true, true, true, true, false, false, false, false, false, false] rfl rfl (any_of HT_.out (by kernel_rfl)) (fun _ _ _ h => h) (Or.inr ⟨by rfl, rfl⟩) ?_ ?_
                 rotate_left
                 ·simp only [Act.put, List.setIfInBounds_toArray, List.set_cons_zero, List.set_cons_succ, i64_w, i32_w]
                  rfl
                 refine pure_ (i := 7) (N := some 82) (v := undef) (a' := ?_) #[true, true, true, true, true, true, true, true, false, false, false, false, false] rfl rfl (any_of HT_.out (by kernel_rfl)) (fun _ _ _ h => h) (Or.inr ⟨by rfl, rfl⟩) ?_ ?_
                 rotate_left
                 ·simp only [Act.put, List.setIfInBounds_toArray, List.set_cons_zero, List.set_cons_succ, i64_w, i32_w]
                  rfl
                 refine pure_ (i := 8) (N := some 83) (v := undef) (a' := ?_) #[true, true, true, true, true, true, true, true, true, false, false, false, false] rfl rfl (any_of HT_.out (by kernel_rfl)) (fun _ _ _ h => h) (Or.inr ⟨by rfl, rfl⟩) ?_ ?_
                 rotate_left
                 ·simp only [Act.put, List.setIfInBounds_toArray, List.set_cons_zero, List.set_cons_succ, i64_w, i32_w]
                  rfl
                 refine pure_ (i := 9) (N := some 84) (v := undef) (a' := ?_) #[true, true, true, true, true, true, true, true, true, true, false, false, false] rfl rfl (any_of HT_.out (by kernel_rfl)) (fun _ _ _ h => h) (Or.inr ⟨by rfl, rfl⟩) ?_ ?_
                 rotate_left
                 ·simp only [Act.put, List.setIfInBounds_toArray, List.set_cons_zero, List.set_cons_succ, i64_w, i32_w]
                  rfl
                 refine pure_ (i := 10) (N := some 85) (v := undef) (a' := ?_) #[true, true, true, true, true, true, true, true, true, true, true, false, false] rfl rfl (any_of HT_.out (by kernel_rfl)) (fun _ _ _ h => h) (Or.inr ⟨by rfl, rfl⟩) ?_ ?_
                 rotate_left
                 ·simp only [Act.put, List.setIfInBounds_toArray, List.set_cons_zero, List.set_cons_succ, i64_w, i32_w]
                  rfl
                 refine pure_ (i := 11) (N := some 86) (v := undef) (a' := ?_) #[true, true, true, true, true, true, true, true, true, true, true, true, false] rfl rfl (any_of HT_.out (by kernel_rfl)) (fun _ _ _ h => h) (Or.inr ⟨by rfl, rfl⟩) ?_ ?_
                 rotate_left
                 ·simp only [Act.put, List.setIfInBounds_toArray, List.set_cons_zero, List.set_cons_succ, i64_w, i32_w]
                  rfl
                 refine pure_ (i := 12) (N := some 87) (v := ?_) (a' := ?_) #[true, true, true, true, true, true, true, true, true, true, true, true, true] rfl rfl (any_of HT_.out (by kernel_rfl)) (fun _ _ _ h => h) (Or.inl ⟨by rfl, ?_⟩) ?_ ?_
                 rotate_left
                 ·intro w'
                  go_simp
                  with_reducible rfl
                 rotate_left
                 ·simp only [Act.put, List.setIfInBounds_toArray, List.set_cons_zero, List.set_cons_succ, i64_w, i32_w]
                  rfl
                 refine done_ (done_of HT_.out (by kernel_rfl)) ?_
                 try go_wp2
                 go_roundg k4
                 case measure => have := HJ1.out; have := HK2.out; have := HK3.out; have := HK4.out; omega
                 case rel => exact ⟨(wrap64 (x64_4 + 1)), (by first | rfl | (simp; done) | (simp [*]; done)), H', ⟨by have := HJ1.out; have := HK2.out; have := HK3.out; have := HK4.out; omega⟩, ⟨by (with_reducible repeat (first | refine blk_drewN ?_ _ | refine blk_drew ?_ | refine blk_alloc ?_ _)); exact BK152.out⟩, ⟨hbk⟩⟩
               ·rw [if_neg c49] at H
                have c49b0 : (t160 == 0) = false := beq_eq_false_iff_ne.mpr c49
                have c49b1 : (t160 != 0) = true := bne_iff_ne.mpr c49
                obtain rfl := Option.some.inj H
                have p158 : 0 ≤ (x64_4 : Int) := of_decide_eq_true (by first | (with_reducible assumption) | assumption)
                have q158 : x64_4 < (l0_2.length : Int) := of_decide_eq_true (by first | (with_reducible assumption) | assumption)
                obtain ⟨ad158, e158, hx158_0, hx158_1, hx158_2, hx158_3, hx158_4, hx158_5, hx158_6, hx158_7, hx158_8⟩ := at_T73 HR0_2.out x64_4 p158 q158
                cases e158
                replace hx158_0 := (HB.out.cell (World.block_lt_of_cell? w _ hx158_0)).trans hx158_0
                replace hx158_1 := (HB.out.cell (World.block_lt_of_cell? w _ hx158_1)).trans hx158_1
                replace hx158_2 := (HB.out.cell (World.block_lt_of_cell? w _ hx158_2)).trans hx158_2
                replace hx158_3 := (HB.out.cell (World.block_lt_of_cell? w _ hx158_3)).trans hx158_3
                replace hx158_4 := (HB.out.cell (World.block_lt_of_cell? w _ hx158_4)).trans hx158_4
                replace hx158_5 := (HB.out.cell (World.block_lt_of_cell? w _ hx158_5)).trans hx158_5
                replace hx158_6 := (HB.out.cell (World.block_lt_of_cell? w _ hx158_6)).trans hx158_6
                replace hx158_7 := (HB.out.cell (World.block_lt_of_cell? w _ hx158_7)).trans hx158_7
                replace hx158_8 := (HB.out.cell (World.block_lt_of_cell? w _ hx158_8)).trans hx158_8
                replace p158 := eq_true p158
                replace q158 := eq_true q158
                go_wp2_with (first | ((with_reducible refine gate_dst (N := 9) rfl ?_); (try (refine gate_guard (by rfl) ?_; dsimp only)); refine box_event ?hg (N := 9) ?hd (cs := #[.string (⟨#[]⟩ : ByteArray), .string (⟨#[]⟩ : ByteArray), .string (⟨#[]⟩ : ByteArray), .int .i64 0, .int .i64 0, .string (⟨#[]⟩ : ByteArray), .int .i64 0, .int .i64 0, .int .i64 0]) (t := 73) ?hr ?_; (case hd => rfl); (case hg => rfl); (case hr => first | (go_simp; done) | (go_simp; rfl)); intro gb159 hg w76 hbox hb; have BK159 := Aside0.mk hbox; have GE159 := Aside0.mk ((by rw [hg]; exact (below_size hbk) : w.heap.size ≤ gb159)); have NB152_159 := Aside0.mk ((by rw [hg]; exact Nat.ne_of_lt (blk_ltB BK152.out) : gb152 ≠ gb159)); have NB159_152 := Aside0.mk ((by rw [hg]; exact Nat.ne_of_gt (blk_ltB BK152.out) : gb159 ≠ gb152)); replace BK152 := Aside0.mk (blk_belowB BK152.out hb); replace HB := Aside0.mk (below_step hbk hb); clear hb hbox hg; have hnb77 := NB159_152.out; have hnc77 := NB152_159.out; obtain ⟨hcz78_0, hcz78_1, hcz78_2, hcz78_3, hcz78_4, hcz78_5, hcz78_6, hcz78_7, hcz78_8⟩ := blk_cs9 BK159.out; obtain ⟨hfz78_0, hfz78_1, hfz78_2, hfz78_3, hfz78_4, hfz78_5, hfz78_6, hfz78_7, hfz78_8⟩ := blk_fs9 BK159.out; obtain ⟨hcz79_0, hcz79_1, hcz79_2⟩ := blk_cs3 BK152.out; obtain ⟨hfz79_0, hfz79_1, hfz79_2⟩ := blk_fs3 BK152.out) | ((with_reducible refine gate_callee (f := 75) rfl ?_); refine goesL_ (some 71) rfl rfl Tryz.func75 (by kernel_rfl) rfl #[.agg #[.slice A0_0 l0_0.length c0_0, .slice A0_1 l0_1.length c0_1, .slice (some ad158) l0_2.length c0_2], .agg #[.string ((rd_T73 l0_2 x64_4).f0), .string ((rd_T73 l0_2 x64_4).f1), .string ((rd_T73 l0_2 x64_4).f2), .int .i64 ((rd_T73 l0_2 x64_4).f3), .int .i64 ((rd_T73 l0_2 x64_4).f4), .string ((rd_T73 l0_2 x64_4).f5), .int .i64 ((rd_T73 l0_2 x64_4).f6.f0), .int .i64 ((rd_T73 l0_2 x64_4).f6.f1), .int .i64 ((rd_T73 l0_2 x64_4).f6.f2)]] rfl hgl ?_; (with_reducible refine (timetable_checkFlight.calls k4 _ _ l0_0 _ _ l0_1 _ _ l0_2 ((rd_T73 l0_2 x64_4).f0) ((rd_T73 l0_2 x64_4).f1) ((rd_T73 l0_2 x64_4).f2) ((rd_T73 l0_2 x64_4).f3) ((rd_T73 l0_2 x64_4).f4) ((rd_T73 l0_2 x64_4).f5) ((rd_T73 l0_2 x64_4).f6.f0) ((rd_T73 l0_2 x64_4).f6.f1) ((rd_T73 l0_2 x64_4).f6.f2) t160 _ ?side1 ?side2 ?side3 ?side4 ?side5 ?side6 A48.out).mono ?_); (case side1 => exact Kd.C_below HR0_0.out hbk); (case side2 => exact HC0_0.out); (case side3 => exact Kd.C_below HR0_1.out hbk); (case side4 => exact HC0_1.out); (case side5 => exact Kd.C_below HR0_2.out hbk); (case side6 => exact HC0_2.out); rintro e w80 ⟨rfl, hb⟩; refine ⟨_, rfl, ?_⟩; have n0_ := Aside0.mk (blk_belowB BK152.out hb); have n1_ := Aside0.mk (blk_below (g := gb159) (o := .cells #[.string ((rd_T73 l0_2 x64_4).f0), .string ((rd_T73 l0_2 x64_4).f1), .string ((rd_T73 l0_2 x64_4).f2), .int .i64 ((rd_T73 l0_2 x64_4).f3), .int .i64 ((rd_T73 l0_2 x64_4).f4), .string ((rd_T73 l0_2 x64_4).f5), .int .i64 ((rd_T73 l0_2 x64_4).f6.f0), .int .i64 ((rd_T73 l0_2 x64_4).f6.f1), .int .i64 ((rd_T73 l0_2 x64_4).f6.f2)] 73 (0, 0)) (by (with_reducible repeat (first | refine blk_drewN ?_ _ | refine blk_drew ?_ | refine blk_alloc ?_ _)); refine blk_put (cs := #[.string ((rd_T73 l0_2 x64_4).f0), .string ((rd_T73 l0_2 x64_4).f1), .string ((rd_T73 l0_2 x64_4).f2), .int .i64 ((rd_T73 l0_2 x64_4).f3), .int .i64 ((rd_T73 l0_2 x64_4).f4), .string ((rd_T73 l0_2 x64_4).f5), .int .i64 ((rd_T73 l0_2 x64_4).f6.f0), .int .i64 ((rd_T73 l0_2 x64_4).f6.f1), .int .i64 0]) ?_ 8 _ rfl; refine blk_put (cs := #[.string ((rd_T73 l0_2 x64_4).f0), .string ((rd_T73 l0_2 x64_4).f1), .string ((rd_T73 l0_2 x64_4).f2), .int .i64 ((rd_T73 l0_2 x64_4).f3), .int .i64 ((rd_T73 l0_2 x64_4).f4), .string ((rd_T73 l0_2 x64_4).f5), .int .i64 ((rd_T73 l0_2 x64_4).f6.f0), .int .i64 0, .int .i64 0]) ?_ 7 _ rfl; refine blk_put (cs := #[.string ((rd_T73 l0_2 x64_4).f0), .string ((rd_T73 l0_2 x64_4).f1), .string ((rd_T73 l0_2 x64_4).f2), .int .i64 ((rd_T73 l0_2 x64_4).f3), .int .i64 ((rd_T73 l0_2 x64_4).f4), .string ((rd_T73 l0_2 x64_4).f5), .int .i64 0, .int .i64 0, .int .i64 0]) ?_ 6 _ rfl; refine blk_put (cs := #[.string ((rd_T73 l0_2 x64_4).f0), .string ((rd_T73 l0_2 x64_4).f1), .string ((rd_T73 l0_2 x64_4).f2), .int .i64 ((rd_T73 l0_2 x64_4).f3), .int .i64 ((rd_T73 l0_2 x64_4).f4), .string (⟨#[]⟩ : ByteArray), .int .i64 0, .int .i64 0, .int .i64 0]) ?_ 5 _ rfl; refine blk_put (cs := #[.string ((rd_T73 l0_2 x64_4).f0), .string ((rd_T73 l0_2 x64_4).f1), .string ((rd_T73 l0_2 x64_4).f2), .int .i64 ((rd_T73 l0_2 x64_4).f3), .int .i64 0, .string (⟨#[]⟩ : ByteArray), .int .i64 0, .int .i64 0, .int .i64 0]) ?_ 4 _ rfl; refine blk_put (cs := #[.string ((rd_T73 l0_2 x64_4).f0), .string ((rd_T73 l0_2 x64_4).f1), .string ((rd_T73 l0_2 x64_4).f2), .int .i64 0, .int .i64 0, .string (⟨#[]⟩ : ByteArray), .int .i64 0, .int .i64 0, .int .i64 0]) ?_ 3 _ rfl; refine blk_put (cs := #[.string ((rd_T73 l0_2 x64_4).f0), .string ((rd_T73 l0_2 x64_4).f1), .string (⟨#[]⟩ : ByteArray), .int .i64 0, .int .i64 0, .string (⟨#[]⟩ : ByteArray), .int .i64 0, .int .i64 0, .int .i64 0]) ?_ 2 _ rfl; refine blk_put (cs := #[.string ((rd_T73 l0_2 x64_4).f0), .string (⟨#[]⟩ : ByteArray), .string (⟨#[]⟩ : ByteArray), .int .i64 0, .int .i64 0, .string (⟨#[]⟩ : ByteArray), .int .i64 0, .int .i64 0, .int .i64 0]) ?_ 1 _ rfl; refine blk_put (cs := #[.string (⟨#[]⟩ : ByteArray), .string (⟨#[]⟩ : ByteArray), .string (⟨#[]⟩ : ByteArray), .int .i64 0, .int .i64 0, .string (⟨#[]⟩ : ByteArray), .int .i64 0, .int .i64 0, .int .i64 0]) ?_ 0 _ rfl; (with_reducible repeat (first | refine blk_drewN ?_ _ | refine blk_drew ?_ | refine blk_alloc ?_ _)); exact BK159.out) hb); have n2_ := Aside0.mk (below_step hbk hb); clear BK152; clear BK159; clear HB; have BK152 := n0_; have BK159 := n1_; have HB := n2_; clear n0_ n1_ n2_; (try clear hb); (try clear hb2); (try clear hk); (try clear hi)))
                go_ret
                exact ⟨hrf, hbk⟩
              ·rw [if_neg c47] at H
               exact absurd H (by simp)
             ·rw [if_neg c46] at H
              exact absurd H (by simp)
            ·rw [if_neg c45] at H
             have c45b0 : decide (x64_4 < (l0_2.length : Int)) = false := decide_eq_false c45
             clear c45
             obtain rfl := Option.some.inj H
             go_wp2
             go_ret
             exact ⟨hrf, hbk⟩
end Go.Proofs.YtilnppdognejbaaGreatDoor.P
namespace Go.Proofs.YtilnppdognejbaaGreatDoor.P
open Go.RowKit Go.Proofs.YtilnppdognejbaaGreatDoorW.PrintWords Go.Proofs.YtilnppdognejbaaGreatDoorW.PrintLast Go.Proofs.YtilnppdognejbaaGreatDoorW.PrintMore
attribute [local go_sem] max2_int min2_int max_two min_two max_three min_three max_four min_four   -- for this text's walks alone
set_option linter.unusedVariables false
set_option linter.unusedSimpArgs false
def grammar_within.f (a0 : Int) (a1 : Int) (a2 : Int) : Option (Bool) := if a0 ≥ a1 then (some (decide (a0 ≤ a2))) else (some false)
set_option maxHeartbeats 8000000 in
set_option maxRecDepth 100000 in
theorem grammar_within.calls (a0 : Int) (a1 : Int) (a2 : Int) (r : Bool) (w : World) (h : grammar_within.f a0 a1 a2 = some r) :
  Calls Tryz.prog 97 #[.int .i64 a0, .int .i64 a1, .int .i64 a2] w fun e w' => e = .returned (.bool r) ∧ Drawn0 w w' := by
 have H : (if a0 ≥ a1 then (some (decide (a0 ≤ a2))) else (some false)) = some r := h
 clear h
 by_cases c4 : a0 ≥ a1
 ·rw [if_pos c4] at H
  have c4b0 : decide (a1 ≤ a0) = true := decide_eq_true c4
  clear c4
  obtain rfl := Option.some.inj H
  go_enter Tryz.func97, Tryz.ntmps97
  go_wp2
  go_ret
  exact ⟨by first | rfl | (simp; done) | (simp [*]; done), by repeat (first | exact Drawn0.refl _ | apply Drawn0.step)⟩
 ·rw [if_neg c4] at H
  have c4b0 : decide (a1 ≤ a0) = false := decide_eq_false c4
  clear c4
  obtain rfl := Option.some.inj H
  go_enter Tryz.func97, Tryz.ntmps97
  go_wp2
  go_ret
  exact ⟨by first | rfl | (simp; done) | (simp [*]; done), by repeat (first | exact Drawn0.refl _ | apply Drawn0.step)⟩
end Go.Proofs.YtilnppdognejbaaGreatDoor.P
namespace Go.Proofs.YtilnppdognejbaaGreatDoor.P
open Go.RowKit Go.Proofs.YtilnppdognejbaaGreatDoorW.PrintWords Go.Proofs.YtilnppdognejbaaGreatDoorW.PrintLast Go.Proofs.YtilnppdognejbaaGreatDoorW.PrintMore
attribute [local go_sem] max2_int min2_int max_two min_two max_three min_three max_four min_four   -- for this text's walks alone
set_option linter.unusedVariables false
set_option linter.unusedSimpArgs false
set_option maxHeartbeats 4000000 in
set_option maxRecDepth 100000 in
theorem vex98 (a0_0 a0_1 a0_2 a0_3 a0_4 a0_5 a0_6 a0_13 : Int) (A0_7 : Option Addr) (c0_7 : Nat) (A0_8 : Option Addr) (c0_8 : Nat) (A0_9 : Option Addr) (c0_9 : Nat) (A0_10 : Option Addr) (c0_10 : Nat) (A0_11 : Option Addr) (c0_11 : Nat) (A0_12 : Option Addr) (c0_12 : Nat) (w : World) :
  Calls Tryz.prog 98 #[.agg #[.int .i64 a0_0, .int .i64 a0_1, .int .i64 a0_2, .int .i64 a0_3, .int .i64 a0_4, .int .i64 a0_5, .int .i64 a0_6, .slice A0_7 0 c0_7, .slice A0_8 0 c0_8, .slice A0_9 0 c0_9, .slice A0_10 0 c0_10, .slice A0_11 0 c0_11, .slice A0_12 0 c0_12, .int .i64 a0_13]] w fun e w' => e = .returned (.int .i64 0) ∧ Below w.heap.size w w' := by
 have hu40 := Tryz.underlying40
 go_enter Tryz.func98, Tryz.ntmps98
 go_wp2_with fail
 go_loop [20] (fun v20 => v20 = .int .i64 0) (fun _ => 0)
 case atStart => rfl
 case round =>
   obtain rfl := hrel
   go_wp2_with fail
   go_loop [50] (fun v50 => v50 = .int .i64 0) (fun _ => 0)
   case atStart => rfl
   case round =>
     obtain rfl := hrel
     go_wp2_with fail
     go_loop [86] (fun v86 => v86 = .int .i64 0) (fun _ => 0)
     case atStart => rfl
     case round =>
       obtain rfl := hrel
       go_wp2_with fail
       go_loop [107] (fun v107 => v107 = .int .i64 0) (fun _ => 0)
       case atStart => rfl
       case round =>
         obtain rfl := hrel
         go_wp2_with fail
         go_ret
         exact ⟨rfl, by repeat (first | exact Below.refl _ _ | apply below_alloc | apply pw_below_drewN | apply below_drew1)⟩
set_option maxHeartbeats 4000000 in
set_option maxRecDepth 100000 in
theorem gval77 (a0_0 a0_1 a0_2 a0_3 a0_4 a0_5 a0_6 a0_13 : Int) (A0_7 : Option Addr) (c0_7 : Nat) (A0_8 : Option Addr) (c0_8 : Nat) (A0_9 : Option Addr) (c0_9 : Nat) (A0_10 : Option Addr) (c0_10 : Nat) (A0_11 : Option Addr) (c0_11 : Nat) (A0_12 : Option Addr) (c0_12 : Nat) (w : World) (hw0 : grammar_within.f a0_0 0 1440 = some true) (hw1 : grammar_within.f a0_1 0 1440 = some true) (hw2 : grammar_within.f a0_2 0 1440 = some true) (hw3 : grammar_within.f a0_3 a0_2 1440 = some true) (hw4 : grammar_within.f a0_4 0 10080 = some true) (hw5 : grammar_within.f a0_5 0 1439 = some true) (hw6 : grammar_within.f a0_6 0 1439 = some true) (hw7 : grammar_within.f a0_13 0 599999 = some true) :
  Calls Tryz.prog 77 #[.agg #[.int .i64 a0_0, .int .i64 a0_1, .int .i64 a0_2, .int .i64 a0_3, .int .i64 a0_4, .int .i64 a0_5, .int .i64 a0_6, .slice A0_7 0 c0_7, .slice A0_8 0 c0_8, .slice A0_9 0 c0_9, .slice A0_10 0 c0_10, .slice A0_11 0 c0_11, .slice A0_12 0 c0_12, .int .i64 a0_13]] w fun e w' => e = .returned (.int .i64 0) ∧ Below w.heap.size w w' := by
 have hu40 := Tryz.underlying40
 have HW0 := Aside0.mk hw0
 have HW1 := Aside0.mk hw1
 have HW2 := Aside0.mk hw2
 have HW3 := Aside0.mk hw3
 have HW4 := Aside0.mk hw4
 have HW5 := Aside0.mk hw5
 have HW6 := Aside0.mk hw6
 have HW7 := Aside0.mk hw7
 clear hw0 hw1 hw2 hw3 hw4 hw5 hw6 hw7
 go_enter Tryz.func77, Tryz.ntmps77
 go_wp2_with (first | (go_at_call 97; (with_reducible refine (grammar_within.calls a0_0 0 1440 true _ HW0.out).mono ?_); rintro e w' ⟨rfl, ⟨nd, rfl⟩⟩) | (go_at_call 97; (with_reducible refine (grammar_within.calls a0_1 0 1440 true _ HW1.out).mono ?_); rintro e w' ⟨rfl, ⟨nd, rfl⟩⟩) | (go_at_call 97; (with_reducible refine (grammar_within.calls a0_2 0 1440 true _ HW2.out).mono ?_); rintro e w' ⟨rfl, ⟨nd, rfl⟩⟩) | (go_at_call 97; (with_reducible refine (grammar_within.calls a0_3 a0_2 1440 true _ HW3.out).mono ?_); rintro e w' ⟨rfl, ⟨nd, rfl⟩⟩) | (go_at_call 97; (with_reducible refine (grammar_within.calls a0_4 0 10080 true _ HW4.out).mono ?_); rintro e w' ⟨rfl, ⟨nd, rfl⟩⟩) | (go_at_call 97; (with_reducible refine (grammar_within.calls a0_5 0 1439 true _ HW5.out).mono ?_); rintro e w' ⟨rfl, ⟨nd, rfl⟩⟩) | (go_at_call 97; (with_reducible refine (grammar_within.calls a0_6 0 1439 true _ HW6.out).mono ?_); rintro e w' ⟨rfl, ⟨nd, rfl⟩⟩) | (go_at_call 97; (with_reducible refine (grammar_within.calls a0_13 0 599999 true _ HW7.out).mono ?_); rintro e w' ⟨rfl, ⟨nd, rfl⟩⟩) | (go_at_call 98; (with_reducible refine (vex98 a0_0 a0_1 a0_2 a0_3 a0_4 a0_5 a0_6 a0_13 A0_7 c0_7 A0_8 c0_8 A0_9 c0_9 A0_10 c0_10 A0_11 c0_11 A0_12 c0_12 _).mono ?_); rintro e w1 ⟨rfl, hb⟩; have hB1 : Below w.heap.size w w1 := below_step (by repeat (first | exact Below.refl _ _ | apply below_alloc | apply pw_below_drewN | apply below_drew1)) hb; have hK1 := blk_below (g := w.heap.size) (o := .cells #[.int .i64 a0_0, .int .i64 a0_1, .int .i64 a0_2, .int .i64 a0_3, .int .i64 a0_4, .int .i64 a0_5, .int .i64 a0_6, .slice A0_7 0 c0_7, .slice A0_8 0 c0_8, .slice A0_9 0 c0_9, .slice A0_10 0 c0_10, .slice A0_11 0 c0_11, .slice A0_12 0 c0_12, .int .i64 a0_13] 40 (0, 0)) (by (with_reducible repeat (first | refine blk_drewN ?_ _ | refine blk_drew ?_)); exact heap_alloc_new w (.cells #[.int .i64 a0_0, .int .i64 a0_1, .int .i64 a0_2, .int .i64 a0_3, .int .i64 a0_4, .int .i64 a0_5, .int .i64 a0_6, .slice A0_7 0 c0_7, .slice A0_8 0 c0_8, .slice A0_9 0 c0_9, .slice A0_10 0 c0_10, .slice A0_11 0 c0_11, .slice A0_12 0 c0_12, .int .i64 a0_13] 40)) hb; have HB := Aside0.mk hB1; have hz11 : w1.cell? ⟨w.heap.size, 11, none⟩ = some (.slice A0_11 0 c0_11) := (blk_cell hK1 11).trans rfl; have hz12 : w1.cell? ⟨w.heap.size, 12, none⟩ = some (.slice A0_12 0 c0_12) := (blk_cell hK1 12).trans rfl; clear hb hB1 hK1))
 go_loop [102] (fun v102 => v102 = .int .i64 0) (fun _ => 0)
 case atStart => rfl
 case round =>
   obtain rfl := hrel
   go_wp2_with fail
   go_loop [146] (fun v146 => v146 = .int .i64 0) (fun _ => 0)
   case atStart => rfl
   case round =>
     obtain rfl := hrel
     go_wp2_with fail
     go_ret
     exact ⟨rfl, by repeat (first | exact HB.out | apply below_alloc | apply pw_below_drewN | apply below_drew1)⟩
set_option maxHeartbeats 4000000 in
set_option maxRecDepth 100000 in
theorem tval52 (a0_0 a0_1 a0_2 a0_3 a0_4 a0_5 a0_6 a0_13 : Int) (A0_7 : Option Addr) (c0_7 : Nat) (A0_8 : Option Addr) (c0_8 : Nat) (A0_9 : Option Addr) (c0_9 : Nat) (A0_10 : Option Addr) (c0_10 : Nat) (A0_11 : Option Addr) (c0_11 : Nat) (A0_12 : Option Addr) (c0_12 : Nat) (w : World) (hw0 : grammar_within.f a0_0 0 1440 = some true) (hw1 : grammar_within.f a0_1 0 1440 = some true) (hw2 : grammar_within.f a0_2 0 1440 = some true) (hw3 : grammar_within.f a0_3 a0_2 1440 = some true) (hw4 : grammar_within.f a0_4 0 10080 = some true) (hw5 : grammar_within.f a0_5 0 1439 = some true) (hw6 : grammar_within.f a0_6 0 1439 = some true) (hw7 : grammar_within.f a0_13 0 599999 = some true) :
  Calls Tryz.prog 52 #[.agg #[.int .i64 a0_0, .int .i64 a0_1, .int .i64 a0_2, .int .i64 a0_3, .int .i64 a0_4, .int .i64 a0_5, .int .i64 a0_6, .slice A0_7 0 c0_7, .slice A0_8 0 c0_8, .slice A0_9 0 c0_9, .slice A0_10 0 c0_10, .slice A0_11 0 c0_11, .slice A0_12 0 c0_12, .int .i64 a0_13]] w fun e w' => e = .returned (.int .i64 0) ∧ Below w.heap.size w w' := by
 have hu40 := Tryz.underlying40
 have HW0 := Aside0.mk hw0
 have HW1 := Aside0.mk hw1
 have HW2 := Aside0.mk hw2
 have HW3 := Aside0.mk hw3
 have HW4 := Aside0.mk hw4
 have HW5 := Aside0.mk hw5
 have HW6 := Aside0.mk hw6
 have HW7 := Aside0.mk hw7
 clear hw0 hw1 hw2 hw3 hw4 hw5 hw6 hw7
 go_enter Tryz.func52, Tryz.ntmps52
 go_wp2_with (first | (go_at_call 77; (with_reducible refine (gval77 a0_0 a0_1 a0_2 a0_3 a0_4 a0_5 a0_6 a0_13 A0_7 c0_7 A0_8 c0_8 A0_9 c0_9 A0_10 c0_10 A0_11 c0_11 A0_12 c0_12 _ HW0.out HW1.out HW2.out HW3.out HW4.out HW5.out HW6.out HW7.out).mono ?_); rintro e w1 ⟨rfl, hb⟩; have hB1 : Below w.heap.size w w1 := below_step (by repeat (first | exact Below.refl _ _ | apply below_alloc | apply pw_below_drewN | apply below_drew1)) hb; have hK1 := blk_below (g := w.heap.size) (o := .cells #[.int .i64 a0_0, .int .i64 a0_1, .int .i64 a0_2, .int .i64 a0_3, .int .i64 a0_4, .int .i64 a0_5, .int .i64 a0_6, .slice A0_7 0 c0_7, .slice A0_8 0 c0_8, .slice A0_9 0 c0_9, .slice A0_10 0 c0_10, .slice A0_11 0 c0_11, .slice A0_12 0 c0_12, .int .i64 a0_13] 40 (0, 0)) (by (with_reducible repeat (first | refine blk_drewN ?_ _ | refine blk_drew ?_)); exact heap_alloc_new w (.cells #[.int .i64 a0_0, .int .i64 a0_1, .int .i64 a0_2, .int .i64 a0_3, .int .i64 a0_4, .int .i64 a0_5, .int .i64 a0_6, .slice A0_7 0 c0_7, .slice A0_8 0 c0_8, .slice A0_9 0 c0_9, .slice A0_10 0 c0_10, .slice A0_11 0 c0_11, .slice A0_12 0 c0_12, .int .i64 a0_13] 40)) hb; have HB := Aside0.mk hB1; have hz7 : w1.cell? ⟨w.heap.size, 7, none⟩ = some (.slice A0_7 0 c0_7) := (blk_cell hK1 7).trans rfl; have hz8 : w1.cell? ⟨w.heap.size, 8, none⟩ = some (.slice A0_8 0 c0_8) := (blk_cell hK1 8).trans rfl; have hz9 : w1.cell? ⟨w.heap.size, 9, none⟩ = some (.slice A0_9 0 c0_9) := (blk_cell hK1 9).trans rfl; have hz10 : w1.cell? ⟨w.heap.size, 10, none⟩ = some (.slice A0_10 0 c0_10) := (blk_cell hK1 10).trans rfl; clear hb hB1 hK1))
 go_loop [25] (fun v25 => v25 = .int .i64 0) (fun _ => 0)
 case atStart => rfl
 case round =>
   obtain rfl := hrel
   go_wp2_with fail
   go_loop [50] (fun v50 => v50 = .int .i64 0) (fun _ => 0)
   case atStart => rfl
   case round =>
     obtain rfl := hrel
     go_wp2_with fail
     go_loop [68] (fun v68 => v68 = .int .i64 0) (fun _ => 0)
     case atStart => rfl
     case round =>
       obtain rfl := hrel
       go_wp2_with fail
       go_loop [86] (fun v86 => v86 = .int .i64 0) (fun _ => 0)
       case atStart => rfl
       case round =>
         obtain rfl := hrel
         go_wp2_with fail
         go_ret
         exact ⟨rfl, by repeat (first | exact HB.out | apply below_alloc | apply pw_below_drewN | apply below_drew1)⟩
def types_Validate.f (a0_0 : Int) (a0_1 : Int) (a0_2 : Int) (a0_3 : Int) (a0_4 : Int) (a0_5 : Int) (a0_6 : Int) (l0_7 : List (S105)) (l0_8 : List (S107)) (l0_9 : List (S109)) (l0_10 : List (S103)) (l0_11 : List (S154)) (l0_12 : List (S161)) (a0_13 : Int) : Option (Int) := if l0_7.length = 0 then if l0_8.length = 0 then if l0_9.length = 0 then if l0_10.length = 0 then if l0_11.length = 0 then if l0_12.length = 0 then if grammar_within.f a0_0 0 1440 = some true then if grammar_within.f a0_1 0 1440 = some true then if grammar_within.f a0_2 0 1440 = some true then if grammar_within.f a0_3 a0_2 1440 = some true then if grammar_within.f a0_4 0 10080 = some true then if grammar_within.f a0_5 0 1439 = some true then if grammar_within.f a0_6 0 1439 = some true then if grammar_within.f a0_13 0 599999 = some true then some 0 else none else none else none else none else none else none else none else none else none else none else none else none else none else none
theorem types_Validate.calls (a0_0 : Int) (a0_1 : Int) (a0_2 : Int) (a0_3 : Int) (a0_4 : Int) (a0_5 : Int) (a0_6 : Int) (A0_7 : Option Addr) (c0_7 : Nat) (l0_7 : List (S105)) (A0_8 : Option Addr) (c0_8 : Nat) (l0_8 : List (S107)) (A0_9 : Option Addr) (c0_9 : Nat) (l0_9 : List (S109)) (A0_10 : Option Addr) (c0_10 : Nat) (l0_10 : List (S103)) (A0_11 : Option Addr) (c0_11 : Nat) (l0_11 : List (S154)) (A0_12 : Option Addr) (c0_12 : Nat) (l0_12 : List (S161)) (a0_13 : Int) (r : Int) (w : World) (hr0_7 : Kd.C k105 w A0_7 l0_7.length l0_7) (hc0_7 : l0_7.length ≤ c0_7) (hr0_8 : Kd.C k107 w A0_8 l0_8.length l0_8) (hc0_8 : l0_8.length ≤ c0_8) (hr0_9 : Kd.C k109 w A0_9 l0_9.length l0_9) (hc0_9 : l0_9.length ≤ c0_9) (hr0_10 : Kd.C k103 w A0_10 l0_10.length l0_10) (hc0_10 : l0_10.length ≤ c0_10) (hr0_11 : Kd.C k154 w A0_11 l0_11.length l0_11) (hc0_11 : l0_11.length ≤ c0_11) (hr0_12 : Kd.C k161 w A0_12 l0_12.length l0_12) (hc0_12 : l0_12.length ≤ c0_12) (h : types_Validate.f a0_0 a0_1 a0_2 a0_3 a0_4 a0_5 a0_6 l0_7 l0_8 l0_9 l0_10 l0_11 l0_12 a0_13 = some r) :
  Calls Tryz.prog 52 #[.agg #[.int .i64 a0_0, .int .i64 a0_1, .int .i64 a0_2, .int .i64 a0_3, .int .i64 a0_4, .int .i64 a0_5, .int .i64 a0_6, .slice A0_7 l0_7.length c0_7, .slice A0_8 l0_8.length c0_8, .slice A0_9 l0_9.length c0_9, .slice A0_10 l0_10.length c0_10, .slice A0_11 l0_11.length c0_11, .slice A0_12 l0_12.length c0_12, .int .i64 a0_13]] w fun e w' => e = .returned (.int .i64 r) ∧ Below w.heap.size w w' := by
 unfold types_Validate.f at h
 by_cases q0 : l0_7.length = 0
 case neg => rw [if_neg q0] at h; cases h
 rw [if_pos q0] at h
 by_cases q1 : l0_8.length = 0
 case neg => rw [if_neg q1] at h; cases h
 rw [if_pos q1] at h
 by_cases q2 : l0_9.length = 0
 case neg => rw [if_neg q2] at h; cases h
 rw [if_pos q2] at h
 by_cases q3 : l0_10.length = 0
 case neg => rw [if_neg q3] at h; cases h
 rw [if_pos q3] at h
 by_cases q4 : l0_11.length = 0
 case neg => rw [if_neg q4] at h; cases h
 rw [if_pos q4] at h
 by_cases q5 : l0_12.length = 0
 case neg => rw [if_neg q5] at h; cases h
 rw [if_pos q5] at h
 by_cases q6 : grammar_within.f a0_0 0 1440 = some true
 case neg => rw [if_neg q6] at h; cases h
 rw [if_pos q6] at h
 by_cases q7 : grammar_within.f a0_1 0 1440 = some true
 case neg => rw [if_neg q7] at h; cases h
 rw [if_pos q7] at h
 by_cases q8 : grammar_within.f a0_2 0 1440 = some true
 case neg => rw [if_neg q8] at h; cases h
 rw [if_pos q8] at h
 by_cases q9 : grammar_within.f a0_3 a0_2 1440 = some true
 case neg => rw [if_neg q9] at h; cases h
 rw [if_pos q9] at h
 by_cases q10 : grammar_within.f a0_4 0 10080 = some true
 case neg => rw [if_neg q10] at h; cases h
 rw [if_pos q10] at h
 by_cases q11 : grammar_within.f a0_5 0 1439 = some true
 case neg => rw [if_neg q11] at h; cases h
 rw [if_pos q11] at h
 by_cases q12 : grammar_within.f a0_6 0 1439 = some true
 case neg => rw [if_neg q12] at h; cases h
 rw [if_pos q12] at h
 by_cases q13 : grammar_within.f a0_13 0 599999 = some true
 case neg => rw [if_neg q13] at h; cases h
 rw [if_pos q13] at h
 obtain rfl := Option.some.inj h
 obtain rfl := List.length_eq_zero_iff.mp q0
 obtain rfl := List.length_eq_zero_iff.mp q1
 obtain rfl := List.length_eq_zero_iff.mp q2
 obtain rfl := List.length_eq_zero_iff.mp q3
 obtain rfl := List.length_eq_zero_iff.mp q4
 obtain rfl := List.length_eq_zero_iff.mp q5
 exact tval52 a0_0 a0_1 a0_2 a0_3 a0_4 a0_5 a0_6 a0_13 A0_7 c0_7 A0_8 c0_8 A0_9 c0_9 A0_10 c0_10 A0_11 c0_11 A0_12 c0_12 w q6 q7 q8 q9 q10 q11 q12 q13
end Go.Proofs.YtilnppdognejbaaGreatDoor.P
namespace Go.Proofs.YtilnppdognejbaaGreatDoor.P
open Go.RowKit Go.Proofs.YtilnppdognejbaaGreatDoorW.PrintWords Go.Proofs.YtilnppdognejbaaGreatDoorW.PrintLast Go.Proofs.YtilnppdognejbaaGreatDoorW.PrintMore
attribute [local go_sem] max2_int min2_int max_two min_two max_three min_three max_four min_four   -- for this text's walks alone
set_option linter.unusedVariables false
set_option linter.unusedSimpArgs false
def measure_valid.f (k : Nat) (l0_0 : List (S83)) (l0_1 : List (S86)) (l0_2 : List (S73)) (a1_0 : Int) (a1_1 : Int) (a1_2 : Int) (a1_3 : Int) (a1_4 : Int) (a1_5 : Int) (a1_6 : Int) (l1_7 : List (S105)) (l1_8 : List (S107)) (l1_9 : List (S109)) (l1_10 : List (S103)) (l1_11 : List (S154)) (l1_12 : List (S161)) (a1_13 : Int) : Option (Int) := (timetable_Validate.f k l0_0 l0_1 l0_2).bind fun t168 => (if t168 = 0 then ((types_Validate.f a1_0 a1_1 a1_2 a1_3 a1_4 a1_5 a1_6 l1_7 l1_8 l1_9 l1_10 l1_11 l1_12 a1_13).bind fun t169 => (some t169)) else (some t168))
set_option maxHeartbeats 8000000 in
set_option maxRecDepth 100000 in
theorem measure_valid.calls (k : Nat) (A0_0 : Option Addr) (c0_0 : Nat) (l0_0 : List (S83)) (A0_1 : Option Addr) (c0_1 : Nat) (l0_1 : List (S86)) (A0_2 : Option Addr) (c0_2 : Nat) (l0_2 : List (S73)) (a1_0 : Int) (a1_1 : Int) (a1_2 : Int) (a1_3 : Int) (a1_4 : Int) (a1_5 : Int) (a1_6 : Int) (A1_7 : Option Addr) (c1_7 : Nat) (l1_7 : List (S105)) (A1_8 : Option Addr) (c1_8 : Nat) (l1_8 : List (S107)) (A1_9 : Option Addr) (c1_9 : Nat) (l1_9 : List (S109)) (A1_10 : Option Addr) (c1_10 : Nat) (l1_10 : List (S103)) (A1_11 : Option Addr) (c1_11 : Nat) (l1_11 : List (S154)) (A1_12 : Option Addr) (c1_12 : Nat) (l1_12 : List (S161)) (a1_13 : Int) (r : Int) (w : World) (hr0_0 : Kd.C k83 w A0_0 l0_0.length l0_0) (hc0_0 : l0_0.length ≤ c0_0) (hr0_1 : Kd.C k86 w A0_1 l0_1.length l0_1) (hc0_1 : l0_1.length ≤ c0_1) (hr0_2 : Kd.C k73 w A0_2 l0_2.length l0_2) (hc0_2 : l0_2.length ≤ c0_2) (hr1_7 : Kd.C k105 w A1_7 l1_7.length l1_7) (hc1_7 : l1_7.length ≤ c1_7) (hr1_8 : Kd.C k107 w A1_8 l1_8.length l1_8) (hc1_8 : l1_8.length ≤ c1_8) (hr1_9 : Kd.C k109 w A1_9 l1_9.length l1_9) (hc1_9 : l1_9.length ≤ c1_9) (hr1_10 : Kd.C k103 w A1_10 l1_10.length l1_10) (hc1_10 : l1_10.length ≤ c1_10) (hr1_11 : Kd.C k154 w A1_11 l1_11.length l1_11) (hc1_11 : l1_11.length ≤ c1_11) (hr1_12 : Kd.C k161 w A1_12 l1_12.length l1_12) (hc1_12 : l1_12.length ≤ c1_12) (h : measure_valid.f k l0_0 l0_1 l0_2 a1_0 a1_1 a1_2 a1_3 a1_4 a1_5 a1_6 l1_7 l1_8 l1_9 l1_10 l1_11 l1_12 a1_13 = some r) :
  Calls Tryz.prog 24 #[.agg #[.slice A0_0 l0_0.length c0_0, .slice A0_1 l0_1.length c0_1, .slice A0_2 l0_2.length c0_2], .agg #[.int .i64 a1_0, .int .i64 a1_1, .int .i64 a1_2, .int .i64 a1_3, .int .i64 a1_4, .int .i64 a1_5, .int .i64 a1_6, .slice A1_7 l1_7.length c1_7, .slice A1_8 l1_8.length c1_8, .slice A1_9 l1_9.length c1_9, .slice A1_10 l1_10.length c1_10, .slice A1_11 l1_11.length c1_11, .slice A1_12 l1_12.length c1_12, .int .i64 a1_13]] w fun e w' => e = .returned (.int .i64 r) ∧ Below w.heap.size w w' := by
 have hu32 := Tryz.underlying32
 have hu40 := Tryz.underlying40
 have HR0_0 := Aside0.mk hr0_0
 have HC0_0 := Aside0.mk hc0_0
 clear hr0_0 hc0_0
 have HR0_1 := Aside0.mk hr0_1
 have HC0_1 := Aside0.mk hc0_1
 clear hr0_1 hc0_1
 have HR0_2 := Aside0.mk hr0_2
 have HC0_2 := Aside0.mk hc0_2
 clear hr0_2 hc0_2
 have HR1_7 := Aside0.mk hr1_7
 have HC1_7 := Aside0.mk hc1_7
 clear hr1_7 hc1_7
 have HR1_8 := Aside0.mk hr1_8
 have HC1_8 := Aside0.mk hc1_8
 clear hr1_8 hc1_8
 have HR1_9 := Aside0.mk hr1_9
 have HC1_9 := Aside0.mk hc1_9
 clear hr1_9 hc1_9
 have HR1_10 := Aside0.mk hr1_10
 have HC1_10 := Aside0.mk hc1_10
 clear hr1_10 hc1_10
 have HR1_11 := Aside0.mk hr1_11
 have HC1_11 := Aside0.mk hc1_11
 clear hr1_11 hc1_11
 have HR1_12 := Aside0.mk hr1_12
 have HC1_12 := Aside0.mk hc1_12
 clear hr1_12 hc1_12
 have HB := Aside0.mk (Below.refl w.heap.size w)
 have H : ((timetable_Validate.f k l0_0 l0_1 l0_2).bind fun t168 => (if t168 = 0 then ((types_Validate.f a1_0 a1_1 a1_2 a1_3 a1_4 a1_5 a1_6 l1_7 l1_8 l1_9 l1_10 l1_11 l1_12 a1_13).bind fun t169 => (some t169)) else (some t168))) = some r := h
 clear h
 replace H := Option.bind_eq_some_iff.mp H
 obtain ⟨t168, A30, H⟩ := H
 replace H : (if t168 = 0 then ((types_Validate.f a1_0 a1_1 a1_2 a1_3 a1_4 a1_5 a1_6 l1_7 l1_8 l1_9 l1_10 l1_11 l1_12 a1_13).bind fun t169 => (some t169)) else (some t168)) = some r := H
 have A3 := Aside0.mk A30
 clear A30
 by_cases c4 : t168 = 0
 ·rw [if_pos c4] at H
  have c4b0 : (t168 == 0) = true := beq_iff_eq.mpr c4
  have c4b1 : (t168 != 0) = false := bne_eq_false_iff_eq.mpr c4
  clear c4
  replace H := Option.bind_eq_some_iff.mp H
  obtain ⟨t169, A50, H⟩ := H
  replace H : (some t169) = some r := H
  have A5 := Aside0.mk A50
  clear A50
  obtain rfl := Option.some.inj H
  go_enter Tryz.func24, Tryz.ntmps24
  go_wp2_with (first | ((with_reducible refine gate_dst (N := 2) rfl ?_); refine box_event ?hg (N := 2) ?hd (cs := #[.slice A0_0 l0_0.length c0_0, .slice A0_1 l0_1.length c0_1, .slice A0_2 l0_2.length c0_2]) (t := 32) ?hr ?_; (case hd => rfl); (case hg => rfl); (case hr => first | (go_simp; done) | (go_simp; rfl)); intro gb166 hg w6 hbox hb; have BK166 := Aside0.mk hbox; have GE166 := Aside0.mk ((by rw [hg]; exact (below_size hbk) : w.heap.size ≤ gb166)); replace HB := Aside0.mk (below_step hbk hb); clear hb hbox hg) | ((with_reducible refine gate_dst (N := 3) rfl ?_); refine box_event ?hg (N := 3) ?hd (cs := #[.int .i64 a1_0, .int .i64 a1_1, .int .i64 a1_2, .int .i64 a1_3, .int .i64 a1_4, .int .i64 a1_5, .int .i64 a1_6, .slice A1_7 l1_7.length c1_7, .slice A1_8 l1_8.length c1_8, .slice A1_9 l1_9.length c1_9, .slice A1_10 l1_10.length c1_10, .slice A1_11 l1_11.length c1_11, .slice A1_12 l1_12.length c1_12, .int .i64 a1_13]) (t := 40) ?hr ?_; (case hd => rfl); (case hg => rfl); (case hr => first | (go_simp; done) | (go_simp; rfl)); intro gb167 hg w7 hbox hb; have BK167 := Aside0.mk hbox; have GE167 := Aside0.mk ((by rw [hg]; exact (below_size hbk) : w.heap.size ≤ gb167)); have NB166_167 := Aside0.mk ((by rw [hg]; exact Nat.ne_of_lt (blk_ltB BK166.out) : gb166 ≠ gb167)); have NB167_166 := Aside0.mk ((by rw [hg]; exact Nat.ne_of_gt (blk_ltB BK166.out) : gb167 ≠ gb166)); replace BK166 := Aside0.mk (blk_belowB BK166.out hb); replace HB := Aside0.mk (below_step hbk hb); clear hb hbox hg; have hnb8 := NB166_167.out; have hnc8 := NB167_166.out; obtain ⟨hcz9_0, hcz9_1, hcz9_2⟩ := blk_cs3 BK166.out; obtain ⟨hfz9_0, hfz9_1, hfz9_2⟩ := blk_fs3 BK166.out) | ((with_reducible refine gate_callee (f := 51) rfl ?_); refine goesL_ (some 7) rfl rfl Tryz.func51 (by kernel_rfl) rfl #[.agg #[.slice A0_0 l0_0.length c0_0, .slice A0_1 l0_1.length c0_1, .slice A0_2 l0_2.length c0_2]] rfl hgl ?_; (with_reducible refine (timetable_Validate.calls k _ _ l0_0 _ _ l0_1 _ _ l0_2 t168 _ ?side1 ?side2 ?side3 ?side4 ?side5 ?side6 A3.out).mono ?_); (case side1 => exact Kd.C_below HR0_0.out hbk); (case side2 => exact HC0_0.out); (case side3 => exact Kd.C_below HR0_1.out hbk); (case side4 => exact HC0_1.out); (case side5 => exact Kd.C_below HR0_2.out hbk); (case side6 => exact HC0_2.out); rintro e w10 ⟨rfl, hb⟩; refine ⟨_, rfl, ?_⟩; have n0_ := Aside0.mk (blk_belowB BK166.out hb); have n1_ := Aside0.mk (blk_belowB BK167.out hb); have n2_ := Aside0.mk (below_step hbk hb); clear BK166; clear BK167; clear HB; have BK166 := n0_; have BK167 := n1_; have HB := n2_; clear n0_ n1_ n2_; (try clear hb); (try clear hb2); (try clear hk); (try clear hi); obtain ⟨hcz11_0, hcz11_1, hcz11_2, hcz11_3, hcz11_4, hcz11_5, hcz11_6, hcz11_7, hcz11_8, hcz11_9, hcz11_10, hcz11_11, hcz11_12, hcz11_13⟩ := blk_cs14 BK167.out; obtain ⟨hfz11_0, hfz11_1, hfz11_2, hfz11_3, hfz11_4, hfz11_5, hfz11_6, hfz11_7, hfz11_8, hfz11_9, hfz11_10, hfz11_11, hfz11_12, hfz11_13⟩ := blk_fs14 BK167.out) | ((with_reducible refine gate_callee (f := 52) rfl ?_); refine goesL_ (some 12) rfl rfl Tryz.func52 (by kernel_rfl) rfl #[.agg #[.int .i64 a1_0, .int .i64 a1_1, .int .i64 a1_2, .int .i64 a1_3, .int .i64 a1_4, .int .i64 a1_5, .int .i64 a1_6, .slice A1_7 l1_7.length c1_7, .slice A1_8 l1_8.length c1_8, .slice A1_9 l1_9.length c1_9, .slice A1_10 l1_10.length c1_10, .slice A1_11 l1_11.length c1_11, .slice A1_12 l1_12.length c1_12, .int .i64 a1_13]] rfl hgl ?_; (with_reducible refine (types_Validate.calls a1_0 a1_1 a1_2 a1_3 a1_4 a1_5 a1_6 _ _ l1_7 _ _ l1_8 _ _ l1_9 _ _ l1_10 _ _ l1_11 _ _ l1_12 a1_13 t169 _ ?side1 ?side2 ?side3 ?side4 ?side5 ?side6 ?side7 ?side8 ?side9 ?side10 ?side11 ?side12 A5.out).mono ?_); (case side1 => exact Kd.C_below HR1_7.out hbk); (case side2 => exact HC1_7.out); (case side3 => exact Kd.C_below HR1_8.out hbk); (case side4 => exact HC1_8.out); (case side5 => exact Kd.C_below HR1_9.out hbk); (case side6 => exact HC1_9.out); (case side7 => exact Kd.C_below HR1_10.out hbk); (case side8 => exact HC1_10.out); (case side9 => exact Kd.C_below HR1_11.out hbk); (case side10 => exact HC1_11.out); (case side11 => exact Kd.C_below HR1_12.out hbk); (case side12 => exact HC1_12.out); rintro e w12 ⟨rfl, hb⟩; refine ⟨_, rfl, ?_⟩; have n0_ := Aside0.mk (blk_belowB BK166.out hb); have n1_ := Aside0.mk (blk_belowB BK167.out hb); have n2_ := Aside0.mk (below_step hbk hb); clear BK166; clear BK167; clear HB; have BK166 := n0_; have BK167 := n1_; have HB := n2_; clear n0_ n1_ n2_; (try clear hb); (try clear hb2); (try clear hk); (try clear hi)))
  go_ret
  exact ⟨hrf, hbk⟩
 ·rw [if_neg c4] at H
  have c4b0 : (t168 == 0) = false := beq_eq_false_iff_ne.mpr c4
  have c4b1 : (t168 != 0) = true := bne_iff_ne.mpr c4
  obtain rfl := Option.some.inj H
  go_enter Tryz.func24, Tryz.ntmps24
  go_wp2_with (first | ((with_reducible refine gate_dst (N := 2) rfl ?_); refine box_event ?hg (N := 2) ?hd (cs := #[.slice A0_0 l0_0.length c0_0, .slice A0_1 l0_1.length c0_1, .slice A0_2 l0_2.length c0_2]) (t := 32) ?hr ?_; (case hd => rfl); (case hg => rfl); (case hr => first | (go_simp; done) | (go_simp; rfl)); intro gb166 hg w13 hbox hb; have BK166 := Aside0.mk hbox; have GE166 := Aside0.mk ((by rw [hg]; exact (below_size hbk) : w.heap.size ≤ gb166)); replace HB := Aside0.mk (below_step hbk hb); clear hb hbox hg) | ((with_reducible refine gate_dst (N := 3) rfl ?_); refine box_event ?hg (N := 3) ?hd (cs := #[.int .i64 a1_0, .int .i64 a1_1, .int .i64 a1_2, .int .i64 a1_3, .int .i64 a1_4, .int .i64 a1_5, .int .i64 a1_6, .slice A1_7 l1_7.length c1_7, .slice A1_8 l1_8.length c1_8, .slice A1_9 l1_9.length c1_9, .slice A1_10 l1_10.length c1_10, .slice A1_11 l1_11.length c1_11, .slice A1_12 l1_12.length c1_12, .int .i64 a1_13]) (t := 40) ?hr ?_; (case hd => rfl); (case hg => rfl); (case hr => first | (go_simp; done) | (go_simp; rfl)); intro gb167 hg w14 hbox hb; have BK167 := Aside0.mk hbox; have GE167 := Aside0.mk ((by rw [hg]; exact (below_size hbk) : w.heap.size ≤ gb167)); have NB166_167 := Aside0.mk ((by rw [hg]; exact Nat.ne_of_lt (blk_ltB BK166.out) : gb166 ≠ gb167)); have NB167_166 := Aside0.mk ((by rw [hg]; exact Nat.ne_of_gt (blk_ltB BK166.out) : gb167 ≠ gb166)); replace BK166 := Aside0.mk (blk_belowB BK166.out hb); replace HB := Aside0.mk (below_step hbk hb); clear hb hbox hg; have hnb15 := NB166_167.out; have hnc15 := NB167_166.out; obtain ⟨hcz16_0, hcz16_1, hcz16_2⟩ := blk_cs3 BK166.out; obtain ⟨hfz16_0, hfz16_1, hfz16_2⟩ := blk_fs3 BK166.out) | ((with_reducible refine gate_callee (f := 51) rfl ?_); refine goesL_ (some 7) rfl rfl Tryz.func51 (by kernel_rfl) rfl #[.agg #[.slice A0_0 l0_0.length c0_0, .slice A0_1 l0_1.length c0_1, .slice A0_2 l0_2.length c0_2]] rfl hgl ?_; (with_reducible refine (timetable_Validate.calls k _ _ l0_0 _ _ l0_1 _ _ l0_2 t168 _ ?side1 ?side2 ?side3 ?side4 ?side5 ?side6 A3.out).mono ?_); (case side1 => exact Kd.C_below HR0_0.out hbk); (case side2 => exact HC0_0.out); (case side3 => exact Kd.C_below HR0_1.out hbk); (case side4 => exact HC0_1.out); (case side5 => exact Kd.C_below HR0_2.out hbk); (case side6 => exact HC0_2.out); rintro e w17 ⟨rfl, hb⟩; refine ⟨_, rfl, ?_⟩; have n0_ := Aside0.mk (blk_belowB BK166.out hb); have n1_ := Aside0.mk (blk_belowB BK167.out hb); have n2_ := Aside0.mk (below_step hbk hb); clear BK166; clear BK167; clear HB; have BK166 := n0_; have BK167 := n1_; have HB := n2_; clear n0_ n1_ n2_; (try clear hb); (try clear hb2); (try clear hk); (try clear hi)))
  go_ret
  exact ⟨hrf, hbk⟩
end Go.Proofs.YtilnppdognejbaaGreatDoor.P
namespace Go.Proofs.YtilnppdognejbaaGreatDoor.P
open Go.RowKit Go.Proofs.YtilnppdognejbaaGreatDoorW.PrintWords Go.Proofs.YtilnppdognejbaaGreatDoorW.PrintLast Go.Proofs.YtilnppdognejbaaGreatDoorW.PrintMore
attribute [local go_sem] max2_int min2_int max_two min_two max_three min_three max_four min_four   -- for this text's walks alone
set_option linter.unusedVariables false
set_option linter.unusedSimpArgs false
def adjOk (fl : List S73) (con sit p q : Int) : Bool :=
 ((rd_T73 fl p).f2.toList == (rd_T73 fl q).f1.toList) && (decide (con ≤ wrap64 ((rd_T73 fl q).f3 - (rd_T73 fl p).f4)) && decide (wrap64 ((rd_T73 fl q).f3 - (rd_T73 fl p).f4) ≤ sit))
def flIn (fl : List S73) (p : Int) : Bool := decide (0 ≤ p) && decide (p < (fl.length : Int))
def dutyFl (fl : List S73) (d : List S50) : Bool := (List.range d.length).all fun i => flIn fl (rd_T50 d (i : Nat)).f0
def dutyAdj (fl : List S73) (con sit : Int) (d : List S50) : Bool := (List.range d.length).all fun i => decide (i = 0) || adjOk fl con sit (rd_T50 d ((i : Nat) - 1)).f0 (rd_T50 d (i : Nat)).f0
theorem dutyFl_at {fl : List S73} {d : List S50} (h : dutyFl fl d = true) (i : Int) (h0 : 0 ≤ i) (h1 : i < (d.length : Int)) : 0 ≤ (rd_T50 d i).f0 ∧ (rd_T50 d i).f0 < (fl.length : Int) := by
 have h2 := List.all_eq_true.mp h i.toNat (by simp; omega)
 have e : ((i.toNat : Nat) : Int) = i := by omega
 simp only [e, flIn, Bool.and_eq_true, decide_eq_true_eq] at h2
 exact h2
theorem dutyAdj_at {fl : List S73} {con sit : Int} {d : List S50} (h : dutyAdj fl con sit d = true) (i : Int) (h0 : 1 ≤ i) (h1 : i < (d.length : Int)) : adjOk fl con sit (rd_T50 d (i - 1)).f0 (rd_T50 d i).f0 = true := by
 have h2 := List.all_eq_true.mp h i.toNat (by simp; omega)
 have e : ((i.toNat : Nat) : Int) = i := by omega
 have e0 : ¬ i.toNat = 0 := by omega
 simp only [e, e0, decide_false, Bool.false_or] at h2
 exact h2
theorem adjOk_at {fl : List S73} {con sit p q : Int} (h : adjOk fl con sit p q = true) : ((rd_T73 fl p).f2.toList == (rd_T73 fl q).f1.toList) = true ∧ con ≤ wrap64 ((rd_T73 fl q).f3 - (rd_T73 fl p).f4) ∧ wrap64 ((rd_T73 fl q).f3 - (rd_T73 fl p).f4) ≤ sit := by
 simp only [adjOk, Bool.and_eq_true, decide_eq_true_eq] at h
 exact h
set_option maxHeartbeats 8000000 in
set_option maxRecDepth 100000 in
theorem duty26 (A0_0 : Option Addr) (n0_0 c0_0 : Nat) (A0_1 : Option Addr) (n0_1 c0_1 : Nat) (A0_2 : Option Addr) (c0_2 : Nat) (l0_2 : List S73) (a1_0 a1_1 a1_2 a1_3 a1_4 a1_5 a1_6 a1_13 : Int) (A1_7 : Option Addr) (n1_7 c1_7 : Nat) (A1_8 : Option Addr) (n1_8 c1_8 : Nat) (A1_9 : Option Addr) (n1_9 c1_9 : Nat) (A1_10 : Option Addr) (n1_10 c1_10 : Nat) (A1_11 : Option Addr) (n1_11 c1_11 : Nat) (A1_12 : Option Addr) (n1_12 c1_12 : Nat) (A2 : Option Addr) (c2 : Nat) (l2 : List S50) (w : World) (hr0 : Kd.C k73 w A0_2 l0_2.length l0_2) (hr2 : Kd.C k50 w A2 l2.length l2) (hl0 : 1 ≤ l2.length) (hl1 : l2.length ≤ 6) (hf : dutyFl l0_2 l2 = true) (ha : dutyAdj l0_2 a1_2 a1_3 l2 = true) :
  Calls Tryz.prog 26 #[.agg #[.slice A0_0 n0_0 c0_0, .slice A0_1 n0_1 c0_1, .slice A0_2 l0_2.length c0_2], .agg #[.int .i64 a1_0, .int .i64 a1_1, .int .i64 a1_2, .int .i64 a1_3, .int .i64 a1_4, .int .i64 a1_5, .int .i64 a1_6, .slice A1_7 n1_7 c1_7, .slice A1_8 n1_8 c1_8, .slice A1_9 n1_9 c1_9, .slice A1_10 n1_10 c1_10, .slice A1_11 n1_11 c1_11, .slice A1_12 n1_12 c1_12, .int .i64 a1_13], .slice A2 l2.length c2] w fun e w' => e = .returned (.int .i64 0) ∧ Below w.heap.size w w' := by
 have hu1 := Tryz.underlying32
 have hu2 := Tryz.underlying40
 have hu3 := Tryz.underlying73
 have hu4 := Tryz.underlying50
 have HB := Aside0.mk (Below.refl w.heap.size w)
 have HR0 := Aside0.mk hr0
 have HR2 := Aside0.mk hr2
 have HF := Aside0.mk hf
 have HA := Aside0.mk ha
 have HL := Aside0.mk (And.intro hl0 hl1)
 have e0 : ((l2.length : Int) == 0) = false := beq_eq_false_iff_ne.mpr (by omega)
 have g6 : decide (6 < (l2.length : Int)) = false := decide_eq_false (by omega)
 clear hr0 hr2 hf ha hl0 hl1
 go_enter Tryz.func26, Tryz.ntmps26
 go_wp2_with fail
 go_loopw [23] (fun v23 wr => ∃ i : Int, v23 = .int .i64 i ∧ 0 ≤ i ∧ i ≤ (l2.length : Int) ∧ Aside0 (Below w.heap.size w wr) ∧ Aside0 (wr.heap[w.heap.size]? = some (.cells #[.slice A0_0 n0_0 c0_0, .slice A0_1 n0_1 c0_1, .slice A0_2 l0_2.length c0_2] 32 (0, 0))) ∧ Aside0 (wr.heap[w.heap.size + 1]? = some (.cells #[.int .i64 a1_0, .int .i64 a1_1, .int .i64 a1_2, .int .i64 a1_3, .int .i64 a1_4, .int .i64 a1_5, .int .i64 a1_6, .slice A1_7 n1_7 c1_7, .slice A1_8 n1_8 c1_8, .slice A1_9 n1_9 c1_9, .slice A1_10 n1_10 c1_10, .slice A1_11 n1_11 c1_11, .slice A1_12 n1_12 c1_12, .int .i64 a1_13] 40 (0, 0)))) (fun v23 _ => (l2.length - intOf v23).toNat)
 case atStart =>
  refine ⟨0, rfl, by omega, by omega, ⟨by repeat (first | exact HB.out | apply below_alloc | apply pw_below_drewN | apply below_drew1)⟩, ⟨?_⟩, ⟨?_⟩⟩
  ·exact blk_alloc (heap_alloc_new w _) _
  ·simpa using heap_alloc_new (w.alloc (.cells #[.slice A0_0 n0_0 c0_0, .slice A0_1 n0_1 c0_1, .slice A0_2 l0_2.length c0_2] 32)) (.cells #[.int .i64 a1_0, .int .i64 a1_1, .int .i64 a1_2, .int .i64 a1_3, .int .i64 a1_4, .int .i64 a1_5, .int .i64 a1_6, .slice A1_7 n1_7 c1_7, .slice A1_8 n1_8 c1_8, .slice A1_9 n1_9 c1_9, .slice A1_10 n1_10 c1_10, .slice A1_11 n1_11 c1_11, .slice A1_12 n1_12 c1_12, .int .i64 a1_13] 40)
 case round =>
  clear HB
  obtain ⟨i, rfl, hi0, hi1, HB, HT, HC⟩ := hrel
  by_cases hlt : i < (l2.length : Int)
  ·have b1 : decide (i < (l2.length : Int)) = true := decide_eq_true hlt
   obtain ⟨ad, e, hc0, hc1⟩ := at_T50 (Kd.C_below HR2.out HB.out) i hi0 hlt
   subst e
   have HI := Aside0.mk (And.intro hi0 hlt)
   have hq := dutyFl_at HF.out i hi0 hlt
   have f0 : decide ((rd_T50 l2 i).f0 < 0) = false := decide_eq_false (by omega)
   have f1 : decide ((rd_T50 l2 i).f0 ≥ (l0_2.length : Int)) = false := decide_eq_false (by omega)
   have f2 : decide ((l0_2.length : Int) ≤ (rd_T50 l2 i).f0) = false := decide_eq_false (by omega)
   have hz : (wr.alloc (.cells #[.int .i64 (rd_T50 l2 i).f0, .bool (rd_T50 l2 i).f1] 50)).cell? ⟨w.heap.size, 2, none⟩ = some (.slice A0_2 l0_2.length c0_2) := (blk_cell (blk_alloc HT.out _) 2).trans rfl
   have p0 := eq_true hi0
   have q0 := eq_true hlt
   have hi9 : i < 6 := by have := HL.out; omega
   clear hi1 hlt hq
   go_wp2_with fail
   go_roundw
   case rel => exact ⟨i + 1, by go_num, by omega, by have := HI.out; omega, ⟨by repeat (first | exact HB.out | apply below_alloc | apply pw_below_drewN | apply below_drew1)⟩, ⟨blk_alloc HT.out _⟩, ⟨blk_alloc HC.out _⟩⟩
   case measure => have := HI.out; simp [intOf]; omega
  ·have b1 : decide (i < (l2.length : Int)) = false := decide_eq_false hlt
   clear hi0 hi1 hlt
   go_wp2_with fail
   have HBa := HB
   clear HB
   go_loopw [9] (fun v9 wq => ∃ i : Int, v9 = .int .i64 i ∧ 1 ≤ i ∧ i ≤ (l2.length : Int) ∧ Aside0 (Below w.heap.size w wq) ∧ Aside0 (wq.heap[w.heap.size]? = some (.cells #[.slice A0_0 n0_0 c0_0, .slice A0_1 n0_1 c0_1, .slice A0_2 l0_2.length c0_2] 32 (0, 0))) ∧ Aside0 (wq.heap[w.heap.size + 1]? = some (.cells #[.int .i64 a1_0, .int .i64 a1_1, .int .i64 a1_2, .int .i64 a1_3, .int .i64 a1_4, .int .i64 a1_5, .int .i64 a1_6, .slice A1_7 n1_7 c1_7, .slice A1_8 n1_8 c1_8, .slice A1_9 n1_9 c1_9, .slice A1_10 n1_10 c1_10, .slice A1_11 n1_11 c1_11, .slice A1_12 n1_12 c1_12, .int .i64 a1_13] 40 (0, 0)))) (fun v9 _ => (l2.length - intOf v9).toNat)
   case atStart => exact ⟨1, rfl, by omega, by have := HL.out; omega, ⟨by repeat (first | exact HBa.out | apply below_alloc | apply pw_below_drewN | apply below_drew1)⟩, HT, HC⟩
   case round =>
    clear HBa HT HC
    obtain ⟨i, rfl, hi0, hi1, HB, HT, HC⟩ := hrel
    by_cases hlt : i < (l2.length : Int)
    ·have b1 : decide (i < (l2.length : Int)) = true := decide_eq_true hlt
     have HI := Aside0.mk (And.intro hi0 hlt)
     have hi9 : i < 6 := by have := HL.out; omega
     have ew : IntKind.i64.wrap (i - 1) = i - 1 := IntWalk.i64_in _ (by omega)
     have EW := Aside0.mk (IntWalk.wrap64_in (i + 1) (by omega))
     have ea := adjOk_at (dutyAdj_at HA.out i hi0 hlt)
     have e1 := ea.1
     have e1n : ((rd_T73 l0_2 (rd_T50 l2 (i - 1)).f0).f2.toList != (rd_T73 l0_2 (rd_T50 l2 i).f0).f1.toList) = false := by simpa using ea.1
     have wa : decide (wrap64 ((rd_T73 l0_2 (rd_T50 l2 i).f0).f3 - (rd_T73 l0_2 (rd_T50 l2 (i - 1)).f0).f4) < a1_2) = false := decide_eq_false (by have := ea.2.1; omega)
     have wb : decide (a1_3 < wrap64 ((rd_T73 l0_2 (rd_T50 l2 i).f0).f3 - (rd_T73 l0_2 (rd_T50 l2 (i - 1)).f0).f4)) = false := decide_eq_false (by have := ea.2.2; omega)
     have hp := dutyFl_at HF.out (i - 1) (by omega) (by omega)
     have hq := dutyFl_at HF.out i (by omega) hlt
     obtain ⟨ad, e, hc0, hc1⟩ := at_T50 (Kd.C_below HR2.out HB.out) (i - 1) (by omega) (by omega)
     subst e
     obtain ⟨ad1, e, hd0, hd1⟩ := at_T50 (Kd.C_below HR2.out HB.out) i (by omega) hlt
     obtain rfl := Option.some.inj e
     have p0 := eq_true (show (0 : Int) ≤ i - 1 by omega)
     have q0 := eq_true (show i - 1 < (l2.length : Int) by omega)
     have p1 := eq_true (show (0 : Int) ≤ i by omega)
     have q1 := eq_true hlt
     have HP := Aside0.mk hp
     have HQ := Aside0.mk hq
     obtain ⟨ae, e, ha0, ha1, ha2, ha3, ha4, ha5, ha6, ha7, ha8⟩ := at_T73 (Kd.C_below HR0.out HB.out) (rd_T50 l2 (i - 1)).f0 hp.1 hp.2
     subst e
     obtain ⟨ae1, e, hb0, hb1, hb2, hb3, hb4, hb5, hb6, hb7, hb8⟩ := at_T73 (Kd.C_below HR0.out HB.out) (rd_T50 l2 i).f0 hq.1 hq.2
     obtain rfl := Option.some.inj e
     have p2 := eq_true hp.1
     have q2 := eq_true hp.2
     have p3 := eq_true hq.1
     have q3 := eq_true hq.2
     have hz : wr.cell? ⟨w.heap.size, 2, none⟩ = some (.slice (some ae) l0_2.length c0_2) := (blk_cell HT.out 2).trans rfl
     rw [show (i - 1).toNat = i.toNat - 1 by omega] at hc0
     have := World.new_ne wr _ hc0
     have := World.new_ne wr _ hd0
     have := World.new_ne wr _ ha0
     have := World.new_ne wr _ ha1
     have := World.new_ne wr _ ha2
     have := World.new_ne wr _ ha3
     have := World.new_ne wr _ ha4
     have := World.new_ne wr _ ha5
     have := World.new_ne wr _ ha6
     have := World.new_ne wr _ ha7
     have := World.new_ne wr _ ha8
     have := World.new_ne wr _ hb0
     have := World.new_ne wr _ hb1
     have := World.new_ne wr _ hb2
     have := World.new_ne wr _ hb3
     have := World.new_ne wr _ hb4
     have := World.new_ne wr _ hb5
     have := World.new_ne wr _ hb6
     have := World.new_ne wr _ hb7
     have := World.new_ne wr _ hb8
     have := World.new_ne wr _ hz
     have hk2_5 : ((wr.alloc (.cells #[.string (rd_T73 l0_2 (rd_T50 l2 (i - 1)).f0).f0, .string (rd_T73 l0_2 (rd_T50 l2 (i - 1)).f0).f1, .string (rd_T73 l0_2 (rd_T50 l2 (i - 1)).f0).f2, .int .i64 (rd_T73 l0_2 (rd_T50 l2 (i - 1)).f0).f3, .int .i64 (rd_T73 l0_2 (rd_T50 l2 (i - 1)).f0).f4, .string (rd_T73 l0_2 (rd_T50 l2 (i - 1)).f0).f5, .int .i64 (rd_T73 l0_2 (rd_T50 l2 (i - 1)).f0).f6.f0, .int .i64 (rd_T73 l0_2 (rd_T50 l2 (i - 1)).f0).f6.f1, .int .i64 (rd_T73 l0_2 (rd_T50 l2 (i - 1)).f0).f6.f2] 73)).alloc (.cells #[.string (rd_T73 l0_2 (rd_T50 l2 i).f0).f0, .string (rd_T73 l0_2 (rd_T50 l2 i).f0).f1, .string (rd_T73 l0_2 (rd_T50 l2 i).f0).f2, .int .i64 (rd_T73 l0_2 (rd_T50 l2 i).f0).f3, .int .i64 (rd_T73 l0_2 (rd_T50 l2 i).f0).f4, .string (rd_T73 l0_2 (rd_T50 l2 i).f0).f5, .int .i64 (rd_T73 l0_2 (rd_T50 l2 i).f0).f6.f0, .int .i64 (rd_T73 l0_2 (rd_T50 l2 i).f0).f6.f1, .int .i64 (rd_T73 l0_2 (rd_T50 l2 i).f0).f6.f2] 73)).cell? ⟨w.heap.size + 1, 2, none⟩ = some (.int .i64 a1_2) := (blk_cell (blk_alloc (blk_alloc HC.out _) _) 2).trans rfl
     have hk3_5 : ((wr.alloc (.cells #[.string (rd_T73 l0_2 (rd_T50 l2 (i - 1)).f0).f0, .string (rd_T73 l0_2 (rd_T50 l2 (i - 1)).f0).f1, .string (rd_T73 l0_2 (rd_T50 l2 (i - 1)).f0).f2, .int .i64 (rd_T73 l0_2 (rd_T50 l2 (i - 1)).f0).f3, .int .i64 (rd_T73 l0_2 (rd_T50 l2 (i - 1)).f0).f4, .string (rd_T73 l0_2 (rd_T50 l2 (i - 1)).f0).f5, .int .i64 (rd_T73 l0_2 (rd_T50 l2 (i - 1)).f0).f6.f0, .int .i64 (rd_T73 l0_2 (rd_T50 l2 (i - 1)).f0).f6.f1, .int .i64 (rd_T73 l0_2 (rd_T50 l2 (i - 1)).f0).f6.f2] 73)).alloc (.cells #[.string (rd_T73 l0_2 (rd_T50 l2 i).f0).f0, .string (rd_T73 l0_2 (rd_T50 l2 i).f0).f1, .string (rd_T73 l0_2 (rd_T50 l2 i).f0).f2, .int .i64 (rd_T73 l0_2 (rd_T50 l2 i).f0).f3, .int .i64 (rd_T73 l0_2 (rd_T50 l2 i).f0).f4, .string (rd_T73 l0_2 (rd_T50 l2 i).f0).f5, .int .i64 (rd_T73 l0_2 (rd_T50 l2 i).f0).f6.f0, .int .i64 (rd_T73 l0_2 (rd_T50 l2 i).f0).f6.f1, .int .i64 (rd_T73 l0_2 (rd_T50 l2 i).f0).f6.f2] 73)).cell? ⟨w.heap.size + 1, 3, none⟩ = some (.int .i64 a1_3) := (blk_cell (blk_alloc (blk_alloc HC.out _) _) 3).trans rfl
     have hk2_6 : ((wr.alloc (.cells #[.string (rd_T73 l0_2 (rd_T50 l2 i).f0).f0, .string (rd_T73 l0_2 (rd_T50 l2 i).f0).f1, .string (rd_T73 l0_2 (rd_T50 l2 i).f0).f2, .int .i64 (rd_T73 l0_2 (rd_T50 l2 i).f0).f3, .int .i64 (rd_T73 l0_2 (rd_T50 l2 i).f0).f4, .string (rd_T73 l0_2 (rd_T50 l2 i).f0).f5, .int .i64 (rd_T73 l0_2 (rd_T50 l2 i).f0).f6.f0, .int .i64 (rd_T73 l0_2 (rd_T50 l2 i).f0).f6.f1, .int .i64 (rd_T73 l0_2 (rd_T50 l2 i).f0).f6.f2] 73)).alloc (.cells #[.string (rd_T73 l0_2 (rd_T50 l2 (i - 1)).f0).f0, .string (rd_T73 l0_2 (rd_T50 l2 (i - 1)).f0).f1, .string (rd_T73 l0_2 (rd_T50 l2 (i - 1)).f0).f2, .int .i64 (rd_T73 l0_2 (rd_T50 l2 (i - 1)).f0).f3, .int .i64 (rd_T73 l0_2 (rd_T50 l2 (i - 1)).f0).f4, .string (rd_T73 l0_2 (rd_T50 l2 (i - 1)).f0).f5, .int .i64 (rd_T73 l0_2 (rd_T50 l2 (i - 1)).f0).f6.f0, .int .i64 (rd_T73 l0_2 (rd_T50 l2 (i - 1)).f0).f6.f1, .int .i64 (rd_T73 l0_2 (rd_T50 l2 (i - 1)).f0).f6.f2] 73)).cell? ⟨w.heap.size + 1, 2, none⟩ = some (.int .i64 a1_2) := (blk_cell (blk_alloc (blk_alloc HC.out _) _) 2).trans rfl
     have hk3_6 : ((wr.alloc (.cells #[.string (rd_T73 l0_2 (rd_T50 l2 i).f0).f0, .string (rd_T73 l0_2 (rd_T50 l2 i).f0).f1, .string (rd_T73 l0_2 (rd_T50 l2 i).f0).f2, .int .i64 (rd_T73 l0_2 (rd_T50 l2 i).f0).f3, .int .i64 (rd_T73 l0_2 (rd_T50 l2 i).f0).f4, .string (rd_T73 l0_2 (rd_T50 l2 i).f0).f5, .int .i64 (rd_T73 l0_2 (rd_T50 l2 i).f0).f6.f0, .int .i64 (rd_T73 l0_2 (rd_T50 l2 i).f0).f6.f1, .int .i64 (rd_T73 l0_2 (rd_T50 l2 i).f0).f6.f2] 73)).alloc (.cells #[.string (rd_T73 l0_2 (rd_T50 l2 (i - 1)).f0).f0, .string (rd_T73 l0_2 (rd_T50 l2 (i - 1)).f0).f1, .string (rd_T73 l0_2 (rd_T50 l2 (i - 1)).f0).f2, .int .i64 (rd_T73 l0_2 (rd_T50 l2 (i - 1)).f0).f3, .int .i64 (rd_T73 l0_2 (rd_T50 l2 (i - 1)).f0).f4, .string (rd_T73 l0_2 (rd_T50 l2 (i - 1)).f0).f5, .int .i64 (rd_T73 l0_2 (rd_T50 l2 (i - 1)).f0).f6.f0, .int .i64 (rd_T73 l0_2 (rd_T50 l2 (i - 1)).f0).f6.f1, .int .i64 (rd_T73 l0_2 (rd_T50 l2 (i - 1)).f0).f6.f2] 73)).cell? ⟨w.heap.size + 1, 3, none⟩ = some (.int .i64 a1_3) := (blk_cell (blk_alloc (blk_alloc HC.out _) _) 3).trans rfl
     clear hp hq ea hlt hi1
     go_wp2_with fail
     go_region_held3 (fun w' => w'.cell? (ad.add ((i.toNat - 1) * 2)) = some (.int .i64 (rd_T50 l2 (i - 1)).f0) ∧ w'.cell? (ad.add (i.toNat * 2)) = some (.int .i64 (rd_T50 l2 i).f0) ∧ w'.cell? (ae.add ((rd_T50 l2 (i - 1)).f0.toNat * 9)) = some (.string (rd_T73 l0_2 (rd_T50 l2 (i - 1)).f0).f0) ∧ w'.cell? ⟨(ae.add ((rd_T50 l2 (i - 1)).f0.toNat * 9)).block, (ae.add ((rd_T50 l2 (i - 1)).f0.toNat * 9)).off + 1, none⟩ = some (.string (rd_T73 l0_2 (rd_T50 l2 (i - 1)).f0).f1) ∧ w'.cell? ⟨(ae.add ((rd_T50 l2 (i - 1)).f0.toNat * 9)).block, (ae.add ((rd_T50 l2 (i - 1)).f0.toNat * 9)).off + 2, none⟩ = some (.string (rd_T73 l0_2 (rd_T50 l2 (i - 1)).f0).f2) ∧ w'.cell? ⟨(ae.add ((rd_T50 l2 (i - 1)).f0.toNat * 9)).block, (ae.add ((rd_T50 l2 (i - 1)).f0.toNat * 9)).off + 3, none⟩ = some (.int .i64 (rd_T73 l0_2 (rd_T50 l2 (i - 1)).f0).f3) ∧ w'.cell? ⟨(ae.add ((rd_T50 l2 (i - 1)).f0.toNat * 9)).block, (ae.add ((rd_T50 l2 (i - 1)).f0.toNat * 9)).off + 4, none⟩ = some (.int .i64 (rd_T73 l0_2 (rd_T50 l2 (i - 1)).f0).f4) ∧ w'.cell? ⟨(ae.add ((rd_T50 l2 (i - 1)).f0.toNat * 9)).block, (ae.add ((rd_T50 l2 (i - 1)).f0.toNat * 9)).off + 5, none⟩ = some (.string (rd_T73 l0_2 (rd_T50 l2 (i - 1)).f0).f5) ∧ w'.cell? ⟨(ae.add ((rd_T50 l2 (i - 1)).f0.toNat * 9)).block, (ae.add ((rd_T50 l2 (i - 1)).f0.toNat * 9)).off + 6, none⟩ = some (.int .i64 (rd_T73 l0_2 (rd_T50 l2 (i - 1)).f0).f6.f0) ∧ w'.cell? ⟨(ae.add ((rd_T50 l2 (i - 1)).f0.toNat * 9)).block, (ae.add ((rd_T50 l2 (i - 1)).f0.toNat * 9)).off + 7, none⟩ = some (.int .i64 (rd_T73 l0_2 (rd_T50 l2 (i - 1)).f0).f6.f1) ∧ w'.cell? ⟨(ae.add ((rd_T50 l2 (i - 1)).f0.toNat * 9)).block, (ae.add ((rd_T50 l2 (i - 1)).f0.toNat * 9)).off + 8, none⟩ = some (.int .i64 (rd_T73 l0_2 (rd_T50 l2 (i - 1)).f0).f6.f2) ∧ w'.cell? (ae.add ((rd_T50 l2 i).f0.toNat * 9)) = some (.string (rd_T73 l0_2 (rd_T50 l2 i).f0).f0) ∧ w'.cell? ⟨(ae.add ((rd_T50 l2 i).f0.toNat * 9)).block, (ae.add ((rd_T50 l2 i).f0.toNat * 9)).off + 1, none⟩ = some (.string (rd_T73 l0_2 (rd_T50 l2 i).f0).f1) ∧ w'.cell? ⟨(ae.add ((rd_T50 l2 i).f0.toNat * 9)).block, (ae.add ((rd_T50 l2 i).f0.toNat * 9)).off + 2, none⟩ = some (.string (rd_T73 l0_2 (rd_T50 l2 i).f0).f2) ∧ w'.cell? ⟨(ae.add ((rd_T50 l2 i).f0.toNat * 9)).block, (ae.add ((rd_T50 l2 i).f0.toNat * 9)).off + 3, none⟩ = some (.int .i64 (rd_T73 l0_2 (rd_T50 l2 i).f0).f3) ∧ w'.cell? ⟨(ae.add ((rd_T50 l2 i).f0.toNat * 9)).block, (ae.add ((rd_T50 l2 i).f0.toNat * 9)).off + 4, none⟩ = some (.int .i64 (rd_T73 l0_2 (rd_T50 l2 i).f0).f4) ∧ w'.cell? ⟨(ae.add ((rd_T50 l2 i).f0.toNat * 9)).block, (ae.add ((rd_T50 l2 i).f0.toNat * 9)).off + 5, none⟩ = some (.string (rd_T73 l0_2 (rd_T50 l2 i).f0).f5) ∧ w'.cell? ⟨(ae.add ((rd_T50 l2 i).f0.toNat * 9)).block, (ae.add ((rd_T50 l2 i).f0.toNat * 9)).off + 6, none⟩ = some (.int .i64 (rd_T73 l0_2 (rd_T50 l2 i).f0).f6.f0) ∧ w'.cell? ⟨(ae.add ((rd_T50 l2 i).f0.toNat * 9)).block, (ae.add ((rd_T50 l2 i).f0.toNat * 9)).off + 7, none⟩ = some (.int .i64 (rd_T73 l0_2 (rd_T50 l2 i).f0).f6.f1) ∧ w'.cell? ⟨(ae.add ((rd_T50 l2 i).f0.toNat * 9)).block, (ae.add ((rd_T50 l2 i).f0.toNat * 9)).off + 8, none⟩ = some (.int .i64 (rd_T73 l0_2 (rd_T50 l2 i).f0).f6.f2) ∧ w'.cell? ⟨w.heap.size, 2, none⟩ = some (.slice (some ae) l0_2.length c0_2)) (go_keep) (fail)
     all_goals clear hc0 hd0 ha0 ha1 ha2 ha3 ha4 ha5 ha6 ha7 ha8 hb0 hb1 hb2 hb3 hb4 hb5 hb6 hb7 hb8 hz hc1 hd1 p0 q0 p1 q1 p2 q2 p3 q3 hi0
     all_goals go_wp2_with fail
     all_goals go_roundw
     all_goals first | exact ⟨wrap64 (i + 1), rfl, by have := EW.out; have := HI.out; omega, by have := EW.out; have := HI.out; omega, ⟨by repeat (first | (with_reducible exact HB.out) | apply below_alloc | apply pw_below_drewN | apply below_drew1)⟩, ⟨by repeat (first | (with_reducible exact HT.out) | refine blk_drewN ?_ _ | refine blk_drew ?_ | refine blk_alloc ?_ _)⟩, ⟨by repeat (first | (with_reducible exact HC.out) | refine blk_drewN ?_ _ | refine blk_drew ?_ | refine blk_alloc ?_ _)⟩⟩ | (have h1 := HI.out; simp only [intOf, EW.out]; simp; omega)
    ·have b1 : decide (i < (l2.length : Int)) = false := decide_eq_false hlt
     clear hi0 hi1 hlt
     go_wp2_with fail
     go_ret
     exact ⟨rfl, by repeat (first | exact HB.out | apply below_alloc | apply pw_below_drewN | apply below_drew1)⟩
def measure_dutyError.f (l0_0 : List (S83)) (l0_1 : List (S86)) (l0_2 : List (S73)) (a1_0 : Int) (a1_1 : Int) (a1_2 : Int) (a1_3 : Int) (a1_4 : Int) (a1_5 : Int) (a1_6 : Int) (l1_7 : List (S105)) (l1_8 : List (S107)) (l1_9 : List (S109)) (l1_10 : List (S103)) (l1_11 : List (S154)) (l1_12 : List (S161)) (a1_13 : Int) (l2 : List (S50)) : Option (Int) := if 1 ≤ l2.length then (if l2.length ≤ 6 then (if dutyFl l0_2 l2 = true then (if dutyAdj l0_2 a1_2 a1_3 l2 = true then some 0 else none) else none) else none) else none
theorem measure_dutyError.calls (A0_0 : Option Addr) (c0_0 : Nat) (l0_0 : List (S83)) (A0_1 : Option Addr) (c0_1 : Nat) (l0_1 : List (S86)) (A0_2 : Option Addr) (c0_2 : Nat) (l0_2 : List (S73)) (a1_0 : Int) (a1_1 : Int) (a1_2 : Int) (a1_3 : Int) (a1_4 : Int) (a1_5 : Int) (a1_6 : Int) (A1_7 : Option Addr) (c1_7 : Nat) (l1_7 : List (S105)) (A1_8 : Option Addr) (c1_8 : Nat) (l1_8 : List (S107)) (A1_9 : Option Addr) (c1_9 : Nat) (l1_9 : List (S109)) (A1_10 : Option Addr) (c1_10 : Nat) (l1_10 : List (S103)) (A1_11 : Option Addr) (c1_11 : Nat) (l1_11 : List (S154)) (A1_12 : Option Addr) (c1_12 : Nat) (l1_12 : List (S161)) (a1_13 : Int) (A2 : Option Addr) (c2 : Nat) (l2 : List (S50)) (r : Int) (w : World) (hr0_0 : Kd.C k83 w A0_0 l0_0.length l0_0) (hc0_0 : l0_0.length ≤ c0_0) (hr0_1 : Kd.C k86 w A0_1 l0_1.length l0_1) (hc0_1 : l0_1.length ≤ c0_1) (hr0_2 : Kd.C k73 w A0_2 l0_2.length l0_2) (hc0_2 : l0_2.length ≤ c0_2) (hr1_7 : Kd.C k105 w A1_7 l1_7.length l1_7) (hc1_7 : l1_7.length ≤ c1_7) (hr1_8 : Kd.C k107 w A1_8 l1_8.length l1_8) (hc1_8 : l1_8.length ≤ c1_8) (hr1_9 : Kd.C k109 w A1_9 l1_9.length l1_9) (hc1_9 : l1_9.length ≤ c1_9) (hr1_10 : Kd.C k103 w A1_10 l1_10.length l1_10) (hc1_10 : l1_10.length ≤ c1_10) (hr1_11 : Kd.C k154 w A1_11 l1_11.length l1_11) (hc1_11 : l1_11.length ≤ c1_11) (hr1_12 : Kd.C k161 w A1_12 l1_12.length l1_12) (hc1_12 : l1_12.length ≤ c1_12) (hr2 : Kd.C k50 w A2 l2.length l2) (hc2 : l2.length ≤ c2) (h : measure_dutyError.f l0_0 l0_1 l0_2 a1_0 a1_1 a1_2 a1_3 a1_4 a1_5 a1_6 l1_7 l1_8 l1_9 l1_10 l1_11 l1_12 a1_13 l2 = some r) :
  Calls Tryz.prog 26 #[.agg #[.slice A0_0 l0_0.length c0_0, .slice A0_1 l0_1.length c0_1, .slice A0_2 l0_2.length c0_2], .agg #[.int .i64 a1_0, .int .i64 a1_1, .int .i64 a1_2, .int .i64 a1_3, .int .i64 a1_4, .int .i64 a1_5, .int .i64 a1_6, .slice A1_7 l1_7.length c1_7, .slice A1_8 l1_8.length c1_8, .slice A1_9 l1_9.length c1_9, .slice A1_10 l1_10.length c1_10, .slice A1_11 l1_11.length c1_11, .slice A1_12 l1_12.length c1_12, .int .i64 a1_13], .slice A2 l2.length c2] w fun e w' => e = .returned (.int .i64 r) ∧ Below w.heap.size w w' := by
 unfold measure_dutyError.f at h
 by_cases q0 : 1 ≤ l2.length
 case neg => rw [if_neg q0] at h; cases h
 by_cases q1 : l2.length ≤ 6
 case neg => rw [if_pos q0, if_neg q1] at h; cases h
 by_cases q2 : dutyFl l0_2 l2 = true
 case neg => rw [if_pos q0, if_pos q1, if_neg q2] at h; cases h
 by_cases q3 : dutyAdj l0_2 a1_2 a1_3 l2 = true
 case neg => rw [if_pos q0, if_pos q1, if_pos q2, if_neg q3] at h; cases h
 rw [if_pos q0, if_pos q1, if_pos q2, if_pos q3] at h
 obtain rfl := Option.some.inj h
 exact duty26 _ _ _ _ _ _ _ _ _ _ _ _ _ _ _ _ _ _ _ _ _ _ _ _ _ _ _ _ _ _ _ _ _ _ _ _ _ _ _ hr0_2 hr2 q0 q1 q2 q3
end Go.Proofs.YtilnppdognejbaaGreatDoor.P
namespace Go.Proofs.YtilnppdognejbaaGreatDoor.P
open Go.RowKit Go.Proofs.YtilnppdognejbaaGreatDoorW.PrintWords Go.Proofs.YtilnppdognejbaaGreatDoorW.PrintLast Go.Proofs.YtilnppdognejbaaGreatDoorW.PrintMore
attribute [local go_sem] max2_int min2_int max_two min_two max_three min_three max_four min_four   -- for this text's walks alone
set_option linter.unusedVariables false
set_option linter.unusedSimpArgs false
def measure_DutyStructure.f (k : Nat) (l0_0 : List (S83)) (l0_1 : List (S86)) (l0_2 : List (S73)) (a1_0 : Int) (a1_1 : Int) (a1_2 : Int) (a1_3 : Int) (a1_4 : Int) (a1_5 : Int) (a1_6 : Int) (l1_7 : List (S105)) (l1_8 : List (S107)) (l1_9 : List (S109)) (l1_10 : List (S103)) (l1_11 : List (S154)) (l1_12 : List (S161)) (a1_13 : Int) (l2 : List (S50)) : Option (Int) := (measure_valid.f k l0_0 l0_1 l0_2 a1_0 a1_1 a1_2 a1_3 a1_4 a1_5 a1_6 l1_7 l1_8 l1_9 l1_10 l1_11 l1_12 a1_13).bind fun t172 => (if t172 = 0 then ((measure_dutyError.f l0_0 l0_1 l0_2 a1_0 a1_1 a1_2 a1_3 a1_4 a1_5 a1_6 l1_7 l1_8 l1_9 l1_10 l1_11 l1_12 a1_13 l2).bind fun t173 => (some t173)) else (some t172))
set_option maxHeartbeats 8000000 in
set_option maxRecDepth 100000 in
theorem measure_DutyStructure.calls (k : Nat) (A0_0 : Option Addr) (c0_0 : Nat) (l0_0 : List (S83)) (A0_1 : Option Addr) (c0_1 : Nat) (l0_1 : List (S86)) (A0_2 : Option Addr) (c0_2 : Nat) (l0_2 : List (S73)) (a1_0 : Int) (a1_1 : Int) (a1_2 : Int) (a1_3 : Int) (a1_4 : Int) (a1_5 : Int) (a1_6 : Int) (A1_7 : Option Addr) (c1_7 : Nat) (l1_7 : List (S105)) (A1_8 : Option Addr) (c1_8 : Nat) (l1_8 : List (S107)) (A1_9 : Option Addr) (c1_9 : Nat) (l1_9 : List (S109)) (A1_10 : Option Addr) (c1_10 : Nat) (l1_10 : List (S103)) (A1_11 : Option Addr) (c1_11 : Nat) (l1_11 : List (S154)) (A1_12 : Option Addr) (c1_12 : Nat) (l1_12 : List (S161)) (a1_13 : Int) (A2 : Option Addr) (c2 : Nat) (l2 : List (S50)) (r : Int) (w : World) (hr0_0 : Kd.C k83 w A0_0 l0_0.length l0_0) (hc0_0 : l0_0.length ≤ c0_0) (hr0_1 : Kd.C k86 w A0_1 l0_1.length l0_1) (hc0_1 : l0_1.length ≤ c0_1) (hr0_2 : Kd.C k73 w A0_2 l0_2.length l0_2) (hc0_2 : l0_2.length ≤ c0_2) (hr1_7 : Kd.C k105 w A1_7 l1_7.length l1_7) (hc1_7 : l1_7.length ≤ c1_7) (hr1_8 : Kd.C k107 w A1_8 l1_8.length l1_8) (hc1_8 : l1_8.length ≤ c1_8) (hr1_9 : Kd.C k109 w A1_9 l1_9.length l1_9) (hc1_9 : l1_9.length ≤ c1_9) (hr1_10 : Kd.C k103 w A1_10 l1_10.length l1_10) (hc1_10 : l1_10.length ≤ c1_10) (hr1_11 : Kd.C k154 w A1_11 l1_11.length l1_11) (hc1_11 : l1_11.length ≤ c1_11) (hr1_12 : Kd.C k161 w A1_12 l1_12.length l1_12) (hc1_12 : l1_12.length ≤ c1_12) (hr2 : Kd.C k50 w A2 l2.length l2) (hc2 : l2.length ≤ c2) (h : measure_DutyStructure.f k l0_0 l0_1 l0_2 a1_0 a1_1 a1_2 a1_3 a1_4 a1_5 a1_6 l1_7 l1_8 l1_9 l1_10 l1_11 l1_12 a1_13 l2 = some r) :
  Calls Tryz.prog 47 #[.agg #[.slice A0_0 l0_0.length c0_0, .slice A0_1 l0_1.length c0_1, .slice A0_2 l0_2.length c0_2], .agg #[.int .i64 a1_0, .int .i64 a1_1, .int .i64 a1_2, .int .i64 a1_3, .int .i64 a1_4, .int .i64 a1_5, .int .i64 a1_6, .slice A1_7 l1_7.length c1_7, .slice A1_8 l1_8.length c1_8, .slice A1_9 l1_9.length c1_9, .slice A1_10 l1_10.length c1_10, .slice A1_11 l1_11.length c1_11, .slice A1_12 l1_12.length c1_12, .int .i64 a1_13], .slice A2 l2.length c2] w fun e w' => e = .returned (.int .i64 r) ∧ Below w.heap.size w w' := by
 have hu32 := Tryz.underlying32
 have hu40 := Tryz.underlying40
 have HR0_0 := Aside0.mk hr0_0
 have HC0_0 := Aside0.mk hc0_0
 clear hr0_0 hc0_0
 have HR0_1 := Aside0.mk hr0_1
 have HC0_1 := Aside0.mk hc0_1
 clear hr0_1 hc0_1
 have HR0_2 := Aside0.mk hr0_2
 have HC0_2 := Aside0.mk hc0_2
 clear hr0_2 hc0_2
 have HR1_7 := Aside0.mk hr1_7
 have HC1_7 := Aside0.mk hc1_7
 clear hr1_7 hc1_7
 have HR1_8 := Aside0.mk hr1_8
 have HC1_8 := Aside0.mk hc1_8
 clear hr1_8 hc1_8
 have HR1_9 := Aside0.mk hr1_9
 have HC1_9 := Aside0.mk hc1_9
 clear hr1_9 hc1_9
 have HR1_10 := Aside0.mk hr1_10
 have HC1_10 := Aside0.mk hc1_10
 clear hr1_10 hc1_10
 have HR1_11 := Aside0.mk hr1_11
 have HC1_11 := Aside0.mk hc1_11
 clear hr1_11 hc1_11
 have HR1_12 := Aside0.mk hr1_12
 have HC1_12 := Aside0.mk hc1_12
 clear hr1_12 hc1_12
 have HR2 := Aside0.mk hr2
 have HC2 := Aside0.mk hc2
 clear hr2 hc2
 have HB := Aside0.mk (Below.refl w.heap.size w)
 have H : ((measure_valid.f k l0_0 l0_1 l0_2 a1_0 a1_1 a1_2 a1_3 a1_4 a1_5 a1_6 l1_7 l1_8 l1_9 l1_10 l1_11 l1_12 a1_13).bind fun t172 => (if t172 = 0 then ((measure_dutyError.f l0_0 l0_1 l0_2 a1_0 a1_1 a1_2 a1_3 a1_4 a1_5 a1_6 l1_7 l1_8 l1_9 l1_10 l1_11 l1_12 a1_13 l2).bind fun t173 => (some t173)) else (some t172))) = some r := h
 clear h
 replace H := Option.bind_eq_some_iff.mp H
 obtain ⟨t172, A40, H⟩ := H
 replace H : (if t172 = 0 then ((measure_dutyError.f l0_0 l0_1 l0_2 a1_0 a1_1 a1_2 a1_3 a1_4 a1_5 a1_6 l1_7 l1_8 l1_9 l1_10 l1_11 l1_12 a1_13 l2).bind fun t173 => (some t173)) else (some t172)) = some r := H
 have A4 := Aside0.mk A40
 clear A40
 by_cases c5 : t172 = 0
 ·rw [if_pos c5] at H
  have c5b0 : (t172 == 0) = true := beq_iff_eq.mpr c5
  have c5b1 : (t172 != 0) = false := bne_eq_false_iff_eq.mpr c5
  clear c5
  replace H := Option.bind_eq_some_iff.mp H
  obtain ⟨t173, A60, H⟩ := H
  replace H : (some t173) = some r := H
  have A6 := Aside0.mk A60
  clear A60
  obtain rfl := Option.some.inj H
  go_enter Tryz.func47, Tryz.ntmps47
  go_wp2_with (first | ((with_reducible refine gate_dst (N := 3) rfl ?_); refine box_event ?hg (N := 3) ?hd (cs := #[.slice A0_0 l0_0.length c0_0, .slice A0_1 l0_1.length c0_1, .slice A0_2 l0_2.length c0_2]) (t := 32) ?hr ?_; (case hd => rfl); (case hg => rfl); (case hr => first | (go_simp; done) | (go_simp; rfl)); intro gb170 hg w7 hbox hb; have BK170 := Aside0.mk hbox; have GE170 := Aside0.mk ((by rw [hg]; exact (below_size hbk) : w.heap.size ≤ gb170)); replace HB := Aside0.mk (below_step hbk hb); clear hb hbox hg) | ((with_reducible refine gate_dst (N := 4) rfl ?_); refine box_event ?hg (N := 4) ?hd (cs := #[.int .i64 a1_0, .int .i64 a1_1, .int .i64 a1_2, .int .i64 a1_3, .int .i64 a1_4, .int .i64 a1_5, .int .i64 a1_6, .slice A1_7 l1_7.length c1_7, .slice A1_8 l1_8.length c1_8, .slice A1_9 l1_9.length c1_9, .slice A1_10 l1_10.length c1_10, .slice A1_11 l1_11.length c1_11, .slice A1_12 l1_12.length c1_12, .int .i64 a1_13]) (t := 40) ?hr ?_; (case hd => rfl); (case hg => rfl); (case hr => first | (go_simp; done) | (go_simp; rfl)); intro gb171 hg w8 hbox hb; have BK171 := Aside0.mk hbox; have GE171 := Aside0.mk ((by rw [hg]; exact (below_size hbk) : w.heap.size ≤ gb171)); have NB170_171 := Aside0.mk ((by rw [hg]; exact Nat.ne_of_lt (blk_ltB BK170.out) : gb170 ≠ gb171)); have NB171_170 := Aside0.mk ((by rw [hg]; exact Nat.ne_of_gt (blk_ltB BK170.out) : gb171 ≠ gb170)); replace BK170 := Aside0.mk (blk_belowB BK170.out hb); replace HB := Aside0.mk (below_step hbk hb); clear hb hbox hg; have hnb9 := NB170_171.out; have hnc9 := NB171_170.out; obtain ⟨hcz10_0, hcz10_1, hcz10_2⟩ := blk_cs3 BK170.out; obtain ⟨hfz10_0, hfz10_1, hfz10_2⟩ := blk_fs3 BK170.out; obtain ⟨hcz11_0, hcz11_1, hcz11_2, hcz11_3, hcz11_4, hcz11_5, hcz11_6, hcz11_7, hcz11_8, hcz11_9, hcz11_10, hcz11_11, hcz11_12, hcz11_13⟩ := blk_cs14 BK171.out; obtain ⟨hfz11_0, hfz11_1, hfz11_2, hfz11_3, hfz11_4, hfz11_5, hfz11_6, hfz11_7, hfz11_8, hfz11_9, hfz11_10, hfz11_11, hfz11_12, hfz11_13⟩ := blk_fs14 BK171.out) | ((with_reducible refine gate_callee (f := 24) rfl ?_); refine goesL_ (some 10) rfl rfl Tryz.func24 (by kernel_rfl) rfl #[.agg #[.slice A0_0 l0_0.length c0_0, .slice A0_1 l0_1.length c0_1, .slice A0_2 l0_2.length c0_2], .agg #[.int .i64 a1_0, .int .i64 a1_1, .int .i64 a1_2, .int .i64 a1_3, .int .i64 a1_4, .int .i64 a1_5, .int .i64 a1_6, .slice A1_7 l1_7.length c1_7, .slice A1_8 l1_8.length c1_8, .slice A1_9 l1_9.length c1_9, .slice A1_10 l1_10.length c1_10, .slice A1_11 l1_11.length c1_11, .slice A1_12 l1_12.length c1_12, .int .i64 a1_13]] rfl hgl ?_; (with_reducible refine (measure_valid.calls k _ _ l0_0 _ _ l0_1 _ _ l0_2 a1_0 a1_1 a1_2 a1_3 a1_4 a1_5 a1_6 _ _ l1_7 _ _ l1_8 _ _ l1_9 _ _ l1_10 _ _ l1_11 _ _ l1_12 a1_13 t172 _ ?side1 ?side2 ?side3 ?side4 ?side5 ?side6 ?side7 ?side8 ?side9 ?side10 ?side11 ?side12 ?side13 ?side14 ?side15 ?side16 ?side17 ?side18 A4.out).mono ?_); (case side1 => exact Kd.C_below HR0_0.out hbk); (case side2 => exact HC0_0.out); (case side3 => exact Kd.C_below HR0_1.out hbk); (case side4 => exact HC0_1.out); (case side5 => exact Kd.C_below HR0_2.out hbk); (case side6 => exact HC0_2.out); (case side7 => exact Kd.C_below HR1_7.out hbk); (case side8 => exact HC1_7.out); (case side9 => exact Kd.C_below HR1_8.out hbk); (case side10 => exact HC1_8.out); (case side11 => exact Kd.C_below HR1_9.out hbk); (case side12 => exact HC1_9.out); (case side13 => exact Kd.C_below HR1_10.out hbk); (case side14 => exact HC1_10.out); (case side15 => exact Kd.C_below HR1_11.out hbk); (case side16 => exact HC1_11.out); (case side17 => exact Kd.C_below HR1_12.out hbk); (case side18 => exact HC1_12.out); rintro e w12 ⟨rfl, hb⟩; refine ⟨_, rfl, ?_⟩; have n0_ := Aside0.mk (blk_belowB BK170.out hb); have n1_ := Aside0.mk (blk_belowB BK171.out hb); have n2_ := Aside0.mk (below_step hbk hb); clear BK170; clear BK171; clear HB; have BK170 := n0_; have BK171 := n1_; have HB := n2_; clear n0_ n1_ n2_; (try clear hb); (try clear hb2); (try clear hk); (try clear hi); obtain ⟨hcz13_0, hcz13_1, hcz13_2⟩ := blk_cs3 BK170.out; obtain ⟨hfz13_0, hfz13_1, hfz13_2⟩ := blk_fs3 BK170.out; obtain ⟨hcz14_0, hcz14_1, hcz14_2, hcz14_3, hcz14_4, hcz14_5, hcz14_6, hcz14_7, hcz14_8, hcz14_9, hcz14_10, hcz14_11, hcz14_12, hcz14_13⟩ := blk_cs14 BK171.out; obtain ⟨hfz14_0, hfz14_1, hfz14_2, hfz14_3, hfz14_4, hfz14_5, hfz14_6, hfz14_7, hfz14_8, hfz14_9, hfz14_10, hfz14_11, hfz14_12, hfz14_13⟩ := blk_fs14 BK171.out) | ((with_reducible refine gate_callee (f := 26) rfl ?_); refine goesL_ (some 17) rfl rfl Tryz.func26 (by kernel_rfl) rfl #[.agg #[.slice A0_0 l0_0.length c0_0, .slice A0_1 l0_1.length c0_1, .slice A0_2 l0_2.length c0_2], .agg #[.int .i64 a1_0, .int .i64 a1_1, .int .i64 a1_2, .int .i64 a1_3, .int .i64 a1_4, .int .i64 a1_5, .int .i64 a1_6, .slice A1_7 l1_7.length c1_7, .slice A1_8 l1_8.length c1_8, .slice A1_9 l1_9.length c1_9, .slice A1_10 l1_10.length c1_10, .slice A1_11 l1_11.length c1_11, .slice A1_12 l1_12.length c1_12, .int .i64 a1_13], .slice A2 l2.length c2] rfl hgl ?_; (with_reducible refine (measure_dutyError.calls _ _ l0_0 _ _ l0_1 _ _ l0_2 a1_0 a1_1 a1_2 a1_3 a1_4 a1_5 a1_6 _ _ l1_7 _ _ l1_8 _ _ l1_9 _ _ l1_10 _ _ l1_11 _ _ l1_12 a1_13 _ _ l2 t173 _ ?side1 ?side2 ?side3 ?side4 ?side5 ?side6 ?side7 ?side8 ?side9 ?side10 ?side11 ?side12 ?side13 ?side14 ?side15 ?side16 ?side17 ?side18 ?side19 ?side20 A6.out).mono ?_); (case side1 => exact Kd.C_below HR0_0.out hbk); (case side2 => exact HC0_0.out); (case side3 => exact Kd.C_below HR0_1.out hbk); (case side4 => exact HC0_1.out); (case side5 => exact Kd.C_below HR0_2.out hbk); (case side6 => exact HC0_2.out); (case side7 => exact Kd.C_below HR1_7.out hbk); (case side8 => exact HC1_7.out); (case side9 => exact Kd.C_below HR1_8.out hbk); (case side10 => exact HC1_8.out); (case side11 => exact Kd.C_below HR1_9.out hbk); (case side12 => exact HC1_9.out); (case side13 => exact Kd.C_below HR1_10.out hbk); (case side14 => exact HC1_10.out); (case side15 => exact Kd.C_below HR1_11.out hbk); (case side16 => exact HC1_11.out); (case side17 => exact Kd.C_below HR1_12.out hbk); (case side18 => exact HC1_12.out); (case side19 => exact Kd.C_below HR2.out hbk); (case side20 => exact HC2.out); rintro e w15 ⟨rfl, hb⟩; refine ⟨_, rfl, ?_⟩; have n0_ := Aside0.mk (blk_belowB BK170.out hb); have n1_ := Aside0.mk (blk_belowB BK171.out hb); have n2_ := Aside0.mk (below_step hbk hb); clear BK170; clear BK171; clear HB; have BK170 := n0_; have BK171 := n1_; have HB := n2_; clear n0_ n1_ n2_; (try clear hb); (try clear hb2); (try clear hk); (try clear hi)))
  go_ret
  exact ⟨hrf, hbk⟩
 ·rw [if_neg c5] at H
  have c5b0 : (t172 == 0) = false := beq_eq_false_iff_ne.mpr c5
  have c5b1 : (t172 != 0) = true := bne_iff_ne.mpr c5
  obtain rfl := Option.some.inj H
  go_enter Tryz.func47, Tryz.ntmps47
  go_wp2_with (first | ((with_reducible refine gate_dst (N := 3) rfl ?_); refine box_event ?hg (N := 3) ?hd (cs := #[.slice A0_0 l0_0.length c0_0, .slice A0_1 l0_1.length c0_1, .slice A0_2 l0_2.length c0_2]) (t := 32) ?hr ?_; (case hd => rfl); (case hg => rfl); (case hr => first | (go_simp; done) | (go_simp; rfl)); intro gb170 hg w16 hbox hb; have BK170 := Aside0.mk hbox; have GE170 := Aside0.mk ((by rw [hg]; exact (below_size hbk) : w.heap.size ≤ gb170)); replace HB := Aside0.mk (below_step hbk hb); clear hb hbox hg) | ((with_reducible refine gate_dst (N := 4) rfl ?_); refine box_event ?hg (N := 4) ?hd (cs := #[.int .i64 a1_0, .int .i64 a1_1, .int .i64 a1_2, .int .i64 a1_3, .int .i64 a1_4, .int .i64 a1_5, .int .i64 a1_6, .slice A1_7 l1_7.length c1_7, .slice A1_8 l1_8.length c1_8, .slice A1_9 l1_9.length c1_9, .slice A1_10 l1_10.length c1_10, .slice A1_11 l1_11.length c1_11, .slice A1_12 l1_12.length c1_12, .int .i64 a1_13]) (t := 40) ?hr ?_; (case hd => rfl); (case hg => rfl); (case hr => first | (go_simp; done) | (go_simp; rfl)); intro gb171 hg w17 hbox hb; have BK171 := Aside0.mk hbox; have GE171 := Aside0.mk ((by rw [hg]; exact (below_size hbk) : w.heap.size ≤ gb171)); have NB170_171 := Aside0.mk ((by rw [hg]; exact Nat.ne_of_lt (blk_ltB BK170.out) : gb170 ≠ gb171)); have NB171_170 := Aside0.mk ((by rw [hg]; exact Nat.ne_of_gt (blk_ltB BK170.out) : gb171 ≠ gb170)); replace BK170 := Aside0.mk (blk_belowB BK170.out hb); replace HB := Aside0.mk (below_step hbk hb); clear hb hbox hg; have hnb18 := NB170_171.out; have hnc18 := NB171_170.out; obtain ⟨hcz19_0, hcz19_1, hcz19_2⟩ := blk_cs3 BK170.out; obtain ⟨hfz19_0, hfz19_1, hfz19_2⟩ := blk_fs3 BK170.out; obtain ⟨hcz20_0, hcz20_1, hcz20_2, hcz20_3, hcz20_4, hcz20_5, hcz20_6, hcz20_7, hcz20_8, hcz20_9, hcz20_10, hcz20_11, hcz20_12, hcz20_13⟩ := blk_cs14 BK171.out; obtain ⟨hfz20_0, hfz20_1, hfz20_2, hfz20_3, hfz20_4, hfz20_5, hfz20_6, hfz20_7, hfz20_8, hfz20_9, hfz20_10, hfz20_11, hfz20_12, hfz20_13⟩ := blk_fs14 BK171.out) | ((with_reducible refine gate_callee (f := 24) rfl ?_); refine goesL_ (some 10) rfl rfl Tryz.func24 (by kernel_rfl) rfl #[.agg #[.slice A0_0 l0_0.length c0_0, .slice A0_1 l0_1.length c0_1, .slice A0_2 l0_2.length c0_2], .agg #[.int .i64 a1_0, .int .i64 a1_1, .int .i64 a1_2, .int .i64 a1_3, .int .i64 a1_4, .int .i64 a1_5, .int .i64 a1_6, .slice A1_7 l1_7.length c1_7, .slice A1_8 l1_8.length c1_8, .slice A1_9 l1_9.length c1_9, .slice A1_10 l1_10.length c1_10, .slice A1_11 l1_11.length c1_11, .slice A1_12 l1_12.length c1_12, .int .i64 a1_13]] rfl hgl ?_; (with_reducible refine (measure_valid.calls k _ _ l0_0 _ _ l0_1 _ _ l0_2 a1_0 a1_1 a1_2 a1_3 a1_4 a1_5 a1_6 _ _ l1_7 _ _ l1_8 _ _ l1_9 _ _ l1_10 _ _ l1_11 _ _ l1_12 a1_13 t172 _ ?side1 ?side2 ?side3 ?side4 ?side5 ?side6 ?side7 ?side8 ?side9 ?side10 ?side11 ?side12 ?side13 ?side14 ?side15 ?side16 ?side17 ?side18 A4.out).mono ?_); (case side1 => exact Kd.C_below HR0_0.out hbk); (case side2 => exact HC0_0.out); (case side3 => exact Kd.C_below HR0_1.out hbk); (case side4 => exact HC0_1.out); (case side5 => exact Kd.C_below HR0_2.out hbk); (case side6 => exact HC0_2.out); (case side7 => exact Kd.C_below HR1_7.out hbk); (case side8 => exact HC1_7.out); (case side9 => exact Kd.C_below HR1_8.out hbk); (case side10 => exact HC1_8.out); (case side11 => exact Kd.C_below HR1_9.out hbk); (case side12 => exact HC1_9.out); (case side13 => exact Kd.C_below HR1_10.out hbk); (case side14 => exact HC1_10.out); (case side15 => exact Kd.C_below HR1_11.out hbk); (case side16 => exact HC1_11.out); (case side17 => exact Kd.C_below HR1_12.out hbk); (case side18 => exact HC1_12.out); rintro e w21 ⟨rfl, hb⟩; refine ⟨_, rfl, ?_⟩; have n0_ := Aside0.mk (blk_belowB BK170.out hb); have n1_ := Aside0.mk (blk_belowB BK171.out hb); have n2_ := Aside0.mk (below_step hbk hb); clear BK170; clear BK171; clear HB; have BK170 := n0_; have BK171 := n1_; have HB := n2_; clear n0_ n1_ n2_; (try clear hb); (try clear hb2); (try clear hk); (try clear hi)))
  go_ret
  exact ⟨hrf, hbk⟩
end Go.Proofs.YtilnppdognejbaaGreatDoor.P
namespace Go.Proofs.YtilnppdognejbaaGreatDoor.P
open Go.RowKit Go.Proofs.YtilnppdognejbaaGreatDoorW.PrintWords Go.Proofs.YtilnppdognejbaaGreatDoorW.PrintLast Go.Proofs.YtilnppdognejbaaGreatDoorW.PrintMore
attribute [local go_sem] max2_int min2_int max_two min_two max_three min_three max_four min_four   -- for this text's walks alone
set_option linter.unusedVariables false
set_option linter.unusedSimpArgs false
def measure_list.l0 : Nat → List Int → List (S62) → List ByteArray → Int → Int → Option ((List (S62)))
 | 0, _, _, _, _, _ => none
 | k + 1, x1, x5, x12, x13, x14 => if x14 < x13 then (if 0 ≤ x14 then (if x14 < (x12.length : Int) then (if x14 < (x1.length : Int) then (if x14 < (x5.length : Int) then (measure_list.l0 k x1 (x5.set (x14 : Int).toNat (⟨rdOf ByteArray.empty x12 x14, rd x1 x14⟩ : S62)) x12 x13 (wrap64 (x14 + 1))) else (none)) else (none)) else (none)) else (none)) else (some x5)
def measure_list.f (k : Nat) (a0 : Int) (l1 : List Int) : Option ((List (S62))) := if 0 ≤ (l1.length : Int) then (if ((l1.length : Int) : Int).toNat ≤ 11728124029610 then ((types_Attributes.f a0).bind fun t177 => (measure_list.l0 k l1 (List.replicate ((l1.length : Int) : Int).toNat z62) t177 (t177.length : Int) 0)) else (none)) else (none)
set_option maxHeartbeats 8000000 in
set_option maxRecDepth 100000 in
theorem measure_list.calls (k : Nat) (a0 : Int) (A1 : Option Addr) (c1 : Nat) (l1 : List Int) (r : List (S62)) (w : World) (hGL0 : GL w) (hr1 : Kd.C (Kd.int .i64) w A1 l1.length l1) (hc1 : l1.length ≤ c1) (h : measure_list.f k a0 l1 = some r) :
  Calls Tryz.prog 48 #[.int .i64 a0, .slice A1 l1.length c1] w fun e w' => ∃ v0_ : Value, e = .returned (v0_) ∧ Kd.R k62 62 w' w.heap.size (fun _ => True) v0_ r ∧ Below w.heap.size w w' := by
 have HGL := Aside0.mk hGL0
 clear hGL0
 have hu62 := Tryz.underlying62
 have HR1 := Aside0.mk hr1
 have HC1 := Aside0.mk hc1
 clear hr1 hc1
 have HB := Aside0.mk (Below.refl w.heap.size w)
 have H : (if 0 ≤ (l1.length : Int) then (if ((l1.length : Int) : Int).toNat ≤ 11728124029610 then ((types_Attributes.f a0).bind fun t177 => (measure_list.l0 k l1 (List.replicate ((l1.length : Int) : Int).toNat z62) t177 (t177.length : Int) 0)) else (none)) else (none)) = some r := h
 clear h
 by_cases c3 : 0 ≤ (l1.length : Int)
 ·rw [if_pos c3] at H
  have c3b0 := eq_true c3
  have c3b1 : decide (0 ≤ (l1.length : Int)) = true := decide_eq_true c3
  clear c3
  by_cases c4 : ((l1.length : Int) : Int).toNat ≤ 11728124029610
  ·rw [if_pos c4] at H
   have c4b0 := eq_true c4
   have c4b1 : decide (((l1.length : Int) : Int).toNat ≤ 11728124029610) = true := decide_eq_true c4
   clear c4
   obtain ⟨y174, hy174⟩ : ∃ y_ : List (S62), y_ = (List.replicate ((l1.length : Int) : Int).toNat z62) := ⟨_, rfl⟩
   replace H : ((types_Attributes.f a0).bind fun t177 => (measure_list.l0 k l1 y174 t177 (t177.length : Int) 0)) = some r := by first | (rw [hy174]; with_reducible exact H) | (have H2_ := (Option.bind_some _ _).symm.trans H; rw [hy174]; with_reducible exact H2_) | (have H2_ := (Option.bind_some _ _).symm.trans H; with_reducible exact H2_) | with_reducible exact H | (rw [hy174]; exact H) | exact H
   have Ny174 := Aside0.mk hy174
   clear hy174
   replace H := Option.bind_eq_some_iff.mp H
   obtain ⟨t177, A50, H⟩ := H
   replace H : (measure_list.l0 k l1 y174 t177 (t177.length : Int) 0) = some r := H
   have A5 := Aside0.mk A50
   clear A50
   have H' := Aside0.mk H
   clear H
   go_enter Tryz.func48, Tryz.ntmps48
   go_wp2_with (first | ((with_reducible refine gate_dst (N := 10) rfl ?_); refine Kd.R_make k62 _ 62 rfl (N := 10) rfl 22 _ _ rfl (l1.length : Int) rfl rfl Tryz.underlying22 (.agg #[(.string ⟨#[]⟩), (.int .i64 0)]) 24 info62 rfl (by decide) (by omega) z62 (ok := fun _ => True) (okp := fun _ => True) (k62_mkM _ _ _ z62 ) (fun _ hk => hk) trivial (of_decide_eq_true (by first | (with_reducible assumption) | assumption)) (Nat.le_trans (Nat.mul_le_mul_right _ (of_decide_eq_true (by first | (with_reducible assumption) | assumption) : (l1.length : Int).toNat ≤ 11728124029610)) (by omega)) (Below.refl _ _) (Nat.le_refl _) ?_; intro v175 w6 ho7 hb hg_ hnew_; clear hg_ hnew_; (first | rw [← Ny174.out] at ho7 | (simp only [Int.reduceToNat] at ho7; rw [← Ny174.out] at ho7)); have HO176 := Aside0.mk (Kd.R_lower ho7 (below_size hbk)); replace HB := Aside0.mk (below_step hbk hb); clear hb ho7) | ((with_reducible refine gate_callee (f := 66) rfl ?_); refine goesL_ (some 12) rfl rfl Tryz.func66 (by kernel_rfl) rfl #[.int .i64 a0] rfl hgl ?_; (with_reducible refine (types_Attributes.calls (hGL0 := ?sideGL) a0 t177 _ A5.out).mono ?_); (case sideGL => exact gl_below HGL.out hbk); rintro e w8 ⟨v178, rfl, ho0, hb⟩; refine ⟨_, rfl, ?_⟩; have n0_ := Aside0.mk (R_belowB HO176.out hb); have n1_ := Aside0.mk (Kd.R_lower ho0 (below_size hbk)); have n2_ := Aside0.mk (below_step hbk hb); clear HO176; clear HB; have HO176 := n0_; have HO179 := n1_; have HB := n2_; clear n0_ n1_ n2_; (try clear hb); (try clear hb2); (try clear hk); (try clear hi); (try clear ho0); obtain ⟨Ao9, co9, eo9⟩ := Kd.R_slice HO179.out; subst eo9))
   go_loopg [14] k (fun kq v14 w' => ∃ (x5_1 : List (S62)) (x14_1 : Int), v14 = .int .i64 x14_1 ∧ Aside0 (measure_list.l0 kq l1 x5_1 t177 (t177.length : Int) x14_1 = some r) ∧ Aside0 (kq ≤ k) ∧ Aside0 (Kd.R k62 62 w' w.heap.size (fun _ => True) v175 x5_1) ∧ Aside0 (Kd.R Kd.string 9 w' w.heap.size (fun _ => True) (.slice Ao9 t177.length co9) t177) ∧ Aside0 (Below w.heap.size w w'))
   case atStart => exact ⟨(y174), (0), (by first | rfl | (simp; done) | (simp [*]; done)), H', ⟨Nat.le_refl _⟩, ⟨by (with_reducible repeat (first | apply Kd.R_alloc | apply Kd.R_drewN | apply Kd.R_drew)); exact HO176.out⟩, ⟨by (with_reducible repeat (first | apply Kd.R_alloc | apply Kd.R_drewN | apply Kd.R_drew)); exact HO179.out⟩, ⟨hbk⟩⟩
   case round =>
    clear H'
    try clear c1
    try clear p2
    try clear c3
    try clear c3b0
    try clear c3b1
    try clear c4
    try clear c4b0
    try clear c4b1
    try clear c6
    obtain ⟨x5_1, x14_1, rfl, HA, HK1, HO_5, HO_12, HB⟩ := hrel
    cases gk with
    | zero => exact absurd HA.out (by simp [measure_list.l0])
    | succ k1 =>
     have H := HA.out
     clear HA
     simp only [measure_list.l0] at H
     by_cases c10 : x14_1 < (t177.length : Int)
     ·rw [if_pos c10] at H
      have c10b0 : decide (x14_1 < (t177.length : Int)) = true := decide_eq_true c10
      clear c10
      by_cases c11 : 0 ≤ x14_1
      ·rw [if_pos c11] at H
       have c11b0 : decide (0 ≤ x14_1) = true := decide_eq_true c11
       clear c11
       by_cases c12 : x14_1 < (t177.length : Int)
       ·rw [if_pos c12] at H
        have c12b0 : decide (x14_1 < (t177.length : Int)) = true := decide_eq_true c12
        clear c12
        by_cases c13 : x14_1 < (l1.length : Int)
        ·rw [if_pos c13] at H
         have c13b0 : decide (x14_1 < (l1.length : Int)) = true := decide_eq_true c13
         clear c13
         by_cases c14 : x14_1 < (x5_1.length : Int)
         ·rw [if_pos c14] at H
          have c14b0 : decide (x14_1 < (x5_1.length : Int)) = true := decide_eq_true c14
          clear c14
          obtain ⟨y182, hy182⟩ : ∃ y_ : List (S62), y_ = (x5_1.set (x14_1 : Int).toNat (⟨rdOf ByteArray.empty t177 x14_1, rd l1 x14_1⟩ : S62)) := ⟨_, rfl⟩
          replace H : (measure_list.l0 k1 l1 y182 t177 (t177.length : Int) (wrap64 (x14_1 + 1))) = some r := by first | (rw [hy182]; with_reducible exact H) | (have H2_ := (Option.bind_some _ _).symm.trans H; rw [hy182]; with_reducible exact H2_) | (have H2_ := (Option.bind_some _ _).symm.trans H; with_reducible exact H2_) | with_reducible exact H | (rw [hy182]; exact H) | exact H
          have Ny182 := Aside0.mk hy182
          clear hy182
          have H' := Aside0.mk H
          clear H
          have p180 : 0 ≤ (x14_1 : Int) := of_decide_eq_true (by first | (with_reducible assumption) | assumption)
          have q180 : x14_1 < (t177.length : Int) := of_decide_eq_true (by first | (with_reducible assumption) | assumption)
          obtain ⟨ad180, e180, hx180_0⟩ := Kd.at_string (Kd.R_reads' HO_12.out).2.2 x14_1 p180 q180
          cases e180
          replace p180 := eq_true p180
          replace q180 := eq_true q180
          have p181 : 0 ≤ (x14_1 : Int) := of_decide_eq_true (by first | (with_reducible assumption) | assumption)
          have q181 : x14_1 < (l1.length : Int) := of_decide_eq_true (by first | (with_reducible assumption) | assumption)
          obtain ⟨ad181, e181, hx181_0⟩ := Kd.at_int HR1.out x14_1 p181 q181
          cases e181
          replace hx181_0 := (HB.out.cell (World.block_lt_of_cell? w _ hx181_0)).trans hx181_0
          replace p181 := eq_true p181
          replace q181 := eq_true q181
          have p15 : 0 ≤ (x14_1 : Int) := of_decide_eq_true (by first | (with_reducible assumption) | assumption)
          have q15 : (x14_1 : Int) < ((x5_1.length : Int) : Int) := of_decide_eq_true (by first | (with_reducible assumption) | assumption)
          obtain ⟨go15, co15, eo15, gb15, gl15, cl15, HG15⟩ := Kd.R_form HO_5.out (by omega)
          (first | cases eo15 | (injection eo15 with ea_ en_ ec_; (first | subst ea_ | (injection ea_ with ea_; subst ea_)); subst ec_; clear en_))
          have GB15 := Aside0.mk gb15
          have GG15 := Aside0.mk HG15
          clear gb15 gl15 HG15
          obtain ⟨ce15, hcl15, hM15, hcc15, hfr15⟩ := Kd.R_elem HO_5.out z62 (x14_1 : Int) p15 q15
          obtain rfl := k62_openM hM15
          have hx15_0 : wr.cell? ⟨go15, (x14_1 : Int).toNat * 2, none⟩ = some (.string ((rd_T62 x5_1 x14_1).f0)) := hcc15 0 _ rfl
          have hx15_1 : wr.cell? ⟨go15, (x14_1 : Int).toNat * 2 + 1, none⟩ = some (.int .i64 ((rd_T62 x5_1 x14_1).f1)) := hcc15 1 _ rfl
          have hf15_0 : wr.frozen? ⟨go15, (x14_1 : Int).toNat * 2, none⟩ = false := hfr15 0
          have hf15_1 : wr.frozen? ⟨go15, (x14_1 : Int).toNat * 2 + 1, none⟩ = false := hfr15 1
          clear hcl15 hcc15 hfr15 hM15
          replace p15 := eq_true p15
          replace q15 := eq_true q15
          have HX16 := Aside0.mk (show Kd.R k62 62 wr w.heap.size (fun _ => True) (.slice (some ⟨go15, 0, none⟩) x5_1.length co15) x5_1 from (by (with_reducible repeat (first | apply Kd.R_alloc | apply Kd.R_drewN | apply Kd.R_drew)); exact HO_5.out))
          obtain ⟨ce16, hcl16, hM16, hcc16, hfr16⟩ := Kd.R_elem HX16.out z62 (x14_1 : Int) (of_decide_eq_true (by first | (with_reducible assumption) | assumption)) (by have h_ : (x14_1 : Int) < ((x5_1.length : Int) : Int) := of_decide_eq_true (by first | (with_reducible assumption) | assumption); first | exact h_ | (have e_ := (Kd.R_reads' HO_5.out).1; omega) | simpa using h_)
          obtain rfl := k62_openM hM16
          have HP16 := Kd.R_seg HX16.out (x14_1 : Int) (of_decide_eq_true (by first | (with_reducible assumption) | assumption)) (by have h_ : (x14_1 : Int) < ((x5_1.length : Int) : Int) := of_decide_eq_true (by first | (with_reducible assumption) | assumption); first | exact h_ | (have e_ := (Kd.R_reads' HO_5.out).1; omega) | simpa using h_) (seg := [.string (rdOf ByteArray.empty t177 x14_1), .int .i64 (rd l1 x14_1)]) (j := 0) hcl16 hcc16 (show 2 ≤ 2 from by decide) (x' := (⟨rdOf ByteArray.empty t177 x14_1, rd l1 x14_1⟩ : S62)) (k62_mkM _ _ _ (⟨rdOf ByteArray.empty t177 x14_1, rd l1 x14_1⟩ : S62) ) (fun _ hk => hk)
          have hx16_0 := hcc16 0 _ rfl
          (try simp only [show (k62).sz = 2 from rfl, Nat.mul_one, Nat.add_zero] at hx16_0)
          have hf16_0 := hfr16 0
          (try simp only [show (k62).sz = 2 from rfl, Nat.mul_one, Nat.add_zero] at hf16_0)
          have hx16_1 := hcc16 1 _ rfl
          (try simp only [show (k62).sz = 2 from rfl, Nat.mul_one, Nat.add_zero] at hx16_1)
          have hf16_1 := hfr16 1
          (try simp only [show (k62).sz = 2 from rfl, Nat.mul_one, Nat.add_zero] at hf16_1)
          clear hcl16 hcc16 hfr16 hM16
          go_wp2_with (first | ((with_reducible refine gate_store (t := 62) (p := 27) rfl ?_); refine store_event (t := 62) (p := 27) (v := ?vo_w17) (w1 := ((wr.setCell ⟨go15, (x14_1 : Int).toNat * 2, none⟩ (.string (rdOf ByteArray.empty t177 x14_1))).setCell ⟨go15, (x14_1 : Int).toNat * 2 + 1, none⟩ (.int .i64 (rd l1 x14_1)))) ?hg ?ho ?hn ?hr ?_; (case ho => rfl); (case hg => rfl); (case hn => rfl); (case hr => first | (go_simp; done) | (go_simp; rfl)); intro w17 hw; have hg : wr.grownBy w17 (some go15) := (by rw [hw]; exact HP16.2); have hp_ : Kd.R k62 62 w17 w.heap.size (fun _ => True) (.slice (some ⟨go15, 0, none⟩) x5_1.length co15) y182 := (by rw [hw, Ny182.out]; exact HP16.1); clear HP16; replace HO_12 := Aside0.mk (Kd.R_over' (v := (.slice (some ⟨go15, 0, none⟩) x5_1.length co15)) (by (with_reducible repeat (first | apply Kd.R_alloc | apply Kd.R_drewN | apply Kd.R_drew)); exact HO_12.out) (Kd.R_typed HO_5.out) (by decide) hg); replace HO_5 := Aside0.mk (hp_); replace HB := Aside0.mk ((by rw [hw]; exact below_set (below_set (HB.out) GB15.out) GB15.out : Below w.heap.size w w17)); clear hg hw hp_))
          go_roundg k1
          case measure => have := HK1.out; omega
          case rel => exact ⟨(y182), (wrap64 (x14_1 + 1)), (by first | rfl | (simp; done) | (simp [*]; done)), H', ⟨by have := HK1.out; omega⟩, ⟨by (with_reducible repeat (first | apply Kd.R_alloc | apply Kd.R_drewN | apply Kd.R_drew)); exact HO_5.out⟩, ⟨by (with_reducible repeat (first | apply Kd.R_alloc | apply Kd.R_drewN | apply Kd.R_drew)); exact HO_12.out⟩, ⟨hbk⟩⟩
         ·rw [if_neg c14] at H
          exact absurd H (by simp)
        ·rw [if_neg c13] at H
         exact absurd H (by simp)
       ·rw [if_neg c12] at H
        exact absurd H (by simp)
      ·rw [if_neg c11] at H
       exact absurd H (by simp)
     ·rw [if_neg c10] at H
      have c10b0 : decide (x14_1 < (t177.length : Int)) = false := decide_eq_false c10
      clear c10
      obtain rfl := Option.some.inj H
      go_wp2
      go_ret
      exact ⟨_, hrf, by (with_reducible repeat (first | apply Kd.R_alloc | apply Kd.R_drewN | apply Kd.R_drew)); exact HO_5.out, hbk⟩
  ·rw [if_neg c4] at H
   exact absurd H (by simp)
 ·rw [if_neg c3] at H
  exact absurd H (by simp)
end Go.Proofs.YtilnppdognejbaaGreatDoor.P
namespace Go.Proofs.YtilnppdognejbaaGreatDoor.P
open Go.RowKit Go.Proofs.YtilnppdognejbaaGreatDoorW.PrintWords Go.Proofs.YtilnppdognejbaaGreatDoorW.PrintLast Go.Proofs.YtilnppdognejbaaGreatDoorW.PrintMore
attribute [local go_sem] max2_int min2_int max_two min_two max_three min_three max_four min_four   -- for this text's walks alone
set_option linter.unusedVariables false
set_option linter.unusedSimpArgs false
set_option maxHeartbeats 40000000 in
set_option maxRecDepth 100000 in
theorem ends28 (A0_0 : Option Addr) (n0_0 c0_0 : Nat) (A0_1 : Option Addr) (n0_1 c0_1 : Nat) (ad ae : Addr) (c0_2 : Nat) (l0_2 : List S73) (c1 : Nat) (l1 : List S50) (ji : Int) (w : World) (hr0 : Kd.C k73 w (some ae) l0_2.length l0_2) (hr1 : Kd.C k50 w (some ad) l1.length l1) (hji : IntKind.i64.wrap ((l1.length : Int) - 1) = ji)
  (hl : 1 ≤ l1.length) (j0 : 0 ≤ ji) (j1 : ji < (l1.length : Int)) (f0 : 0 ≤ (rd_T50 l1 0).f0) (f1 : (rd_T50 l1 0).f0 < (l0_2.length : Int)) (g0 : 0 ≤ (rd_T50 l1 ji).f0) (g1 : (rd_T50 l1 ji).f0 < (l0_2.length : Int)) :
  Calls Tryz.prog 28 #[.agg #[.slice A0_0 n0_0 c0_0, .slice A0_1 n0_1 c0_1, .slice (some ae) l0_2.length c0_2], .slice (some ad) l1.length c1] w fun e w' => e = .returned (.tuple #[.agg #[.string (rd_T73 l0_2 (rd_T50 l1 0).f0).f0, .string (rd_T73 l0_2 (rd_T50 l1 0).f0).f1, .string (rd_T73 l0_2 (rd_T50 l1 0).f0).f2, .int .i64 (rd_T73 l0_2 (rd_T50 l1 0).f0).f3, .int .i64 (rd_T73 l0_2 (rd_T50 l1 0).f0).f4, .string (rd_T73 l0_2 (rd_T50 l1 0).f0).f5, .int .i64 (rd_T73 l0_2 (rd_T50 l1 0).f0).f6.f0, .int .i64 (rd_T73 l0_2 (rd_T50 l1 0).f0).f6.f1, .int .i64 (rd_T73 l0_2 (rd_T50 l1 0).f0).f6.f2], .agg #[.string (rd_T73 l0_2 (rd_T50 l1 ji).f0).f0, .string (rd_T73 l0_2 (rd_T50 l1 ji).f0).f1, .string (rd_T73 l0_2 (rd_T50 l1 ji).f0).f2, .int .i64 (rd_T73 l0_2 (rd_T50 l1 ji).f0).f3, .int .i64 (rd_T73 l0_2 (rd_T50 l1 ji).f0).f4, .string (rd_T73 l0_2 (rd_T50 l1 ji).f0).f5, .int .i64 (rd_T73 l0_2 (rd_T50 l1 ji).f0).f6.f0, .int .i64 (rd_T73 l0_2 (rd_T50 l1 ji).f0).f6.f1, .int .i64 (rd_T73 l0_2 (rd_T50 l1 ji).f0).f6.f2]]) ∧ Below w.heap.size w w' := by
 have hu1 := Tryz.underlying32
 have hu2 := Tryz.underlying73
 have hu3 := Tryz.underlying50
 have HB := Aside0.mk (Below.refl w.heap.size w)
 obtain ⟨b, e, hc0, hc1⟩ := at_T50 hr1 0 (by omega) (by omega)
 obtain rfl := Option.some.inj e
 obtain ⟨b, e, hd0, hd1⟩ := at_T50 hr1 ji j0 j1
 obtain rfl := Option.some.inj e
 obtain ⟨b, e, ha0, ha1, ha2, ha3, ha4, ha5, ha6, ha7, ha8⟩ := at_T73 hr0 (rd_T50 l1 0).f0 f0 f1
 obtain rfl := Option.some.inj e
 obtain ⟨b, e, hb0, hb1, hb2, hb3, hb4, hb5, hb6, hb7, hb8⟩ := at_T73 hr0 (rd_T50 l1 ji).f0 g0 g1
 obtain rfl := Option.some.inj e
 simp only [Int.toNat_zero, Nat.zero_mul, Addr.add_zero'] at hc0
 have B : Below w.heap.size w (((w.alloc (.cells #[.slice A0_0 n0_0 c0_0, .slice A0_1 n0_1 c0_1, .slice (some ae) l0_2.length c0_2] 32)).alloc (.cells #[.string ⟨#[]⟩, .string ⟨#[]⟩, .string ⟨#[]⟩, .int .i64 0, .int .i64 0, .string ⟨#[]⟩, .int .i64 0, .int .i64 0, .int .i64 0] 73)).alloc (.cells #[.string ⟨#[]⟩, .string ⟨#[]⟩, .string ⟨#[]⟩, .int .i64 0, .int .i64 0, .string ⟨#[]⟩, .int .i64 0, .int .i64 0, .int .i64 0] 73)) := below_alloc (below_alloc (below_alloc (Below.refl _ _) _) _) _
 have := World.new_ne w _ hc0
 have := World.new_ne w _ hd0
 have := World.new_ne w _ ha0
 have := World.new_ne w _ ha1
 have := World.new_ne w _ ha2
 have := World.new_ne w _ ha3
 have := World.new_ne w _ ha4
 have := World.new_ne w _ ha5
 have := World.new_ne w _ ha6
 have := World.new_ne w _ ha7
 have := World.new_ne w _ ha8
 have := World.new_ne w _ hb0
 have := World.new_ne w _ hb1
 have := World.new_ne w _ hb2
 have := World.new_ne w _ hb3
 have := World.new_ne w _ hb4
 have := World.new_ne w _ hb5
 have := World.new_ne w _ hb6
 have := World.new_ne w _ hb7
 have := World.new_ne w _ hb8
 have hl0 : (0 : Int) < (l1.length : Int) := by omega
 have hl00 : 0 < l1.length := by omega
 replace hl := eq_true hl
 replace j0 := eq_true j0
 replace j1 := eq_true j1
 replace f0 := eq_true f0
 replace f1 := eq_true f1
 replace g0 := eq_true g0
 replace g1 := eq_true g1
 clear hr0 hr1 hc1 hd1 B
 go_enter Tryz.func28, Tryz.ntmps28
 go_upto_region 1 with (fail)
 go_region_held3 (fun w' => w'.cell? ⟨w.heap.size, 2, none⟩ = some (.slice (some ae) l0_2.length c0_2) ∧ w'.cell? ad = some (.int .i64 (rd_T50 l1 0).f0) ∧ w'.cell? (ad.add (ji.toNat * 2)) = some (.int .i64 (rd_T50 l1 ji).f0) ∧ w'.cell? (ae.add ((rd_T50 l1 0).f0.toNat * 9)) = some (.string (rd_T73 l0_2 (rd_T50 l1 0).f0).f0) ∧ w'.cell? ⟨(ae.add ((rd_T50 l1 0).f0.toNat * 9)).block, (ae.add ((rd_T50 l1 0).f0.toNat * 9)).off + 1, none⟩ = some (.string (rd_T73 l0_2 (rd_T50 l1 0).f0).f1) ∧ w'.cell? ⟨(ae.add ((rd_T50 l1 0).f0.toNat * 9)).block, (ae.add ((rd_T50 l1 0).f0.toNat * 9)).off + 2, none⟩ = some (.string (rd_T73 l0_2 (rd_T50 l1 0).f0).f2) ∧ w'.cell? ⟨(ae.add ((rd_T50 l1 0).f0.toNat * 9)).block, (ae.add ((rd_T50 l1 0).f0.toNat * 9)).off + 3, none⟩ = some (.int .i64 (rd_T73 l0_2 (rd_T50 l1 0).f0).f3) ∧ w'.cell? ⟨(ae.add ((rd_T50 l1 0).f0.toNat * 9)).block, (ae.add ((rd_T50 l1 0).f0.toNat * 9)).off + 4, none⟩ = some (.int .i64 (rd_T73 l0_2 (rd_T50 l1 0).f0).f4) ∧ w'.cell? ⟨(ae.add ((rd_T50 l1 0).f0.toNat * 9)).block, (ae.add ((rd_T50 l1 0).f0.toNat * 9)).off + 5, none⟩ = some (.string (rd_T73 l0_2 (rd_T50 l1 0).f0).f5) ∧ w'.cell? ⟨(ae.add ((rd_T50 l1 0).f0.toNat * 9)).block, (ae.add ((rd_T50 l1 0).f0.toNat * 9)).off + 6, none⟩ = some (.int .i64 (rd_T73 l0_2 (rd_T50 l1 0).f0).f6.f0) ∧ w'.cell? ⟨(ae.add ((rd_T50 l1 0).f0.toNat * 9)).block, (ae.add ((rd_T50 l1 0).f0.toNat * 9)).off + 7, none⟩ = some (.int .i64 (rd_T73 l0_2 (rd_T50 l1 0).f0).f6.f1) ∧ w'.cell? ⟨(ae.add ((rd_T50 l1 0).f0.toNat * 9)).block, (ae.add ((rd_T50 l1 0).f0.toNat * 9)).off + 8, none⟩ = some (.int .i64 (rd_T73 l0_2 (rd_T50 l1 0).f0).f6.f2) ∧ w'.cell? (ae.add ((rd_T50 l1 ji).f0.toNat * 9)) = some (.string (rd_T73 l0_2 (rd_T50 l1 ji).f0).f0) ∧ w'.cell? ⟨(ae.add ((rd_T50 l1 ji).f0.toNat * 9)).block, (ae.add ((rd_T50 l1 ji).f0.toNat * 9)).off + 1, none⟩ = some (.string (rd_T73 l0_2 (rd_T50 l1 ji).f0).f1) ∧ w'.cell? ⟨(ae.add ((rd_T50 l1 ji).f0.toNat * 9)).block, (ae.add ((rd_T50 l1 ji).f0.toNat * 9)).off + 2, none⟩ = some (.string (rd_T73 l0_2 (rd_T50 l1 ji).f0).f2) ∧ w'.cell? ⟨(ae.add ((rd_T50 l1 ji).f0.toNat * 9)).block, (ae.add ((rd_T50 l1 ji).f0.toNat * 9)).off + 3, none⟩ = some (.int .i64 (rd_T73 l0_2 (rd_T50 l1 ji).f0).f3) ∧ w'.cell? ⟨(ae.add ((rd_T50 l1 ji).f0.toNat * 9)).block, (ae.add ((rd_T50 l1 ji).f0.toNat * 9)).off + 4, none⟩ = some (.int .i64 (rd_T73 l0_2 (rd_T50 l1 ji).f0).f4) ∧ w'.cell? ⟨(ae.add ((rd_T50 l1 ji).f0.toNat * 9)).block, (ae.add ((rd_T50 l1 ji).f0.toNat * 9)).off + 5, none⟩ = some (.string (rd_T73 l0_2 (rd_T50 l1 ji).f0).f5) ∧ w'.cell? ⟨(ae.add ((rd_T50 l1 ji).f0.toNat * 9)).block, (ae.add ((rd_T50 l1 ji).f0.toNat * 9)).off + 6, none⟩ = some (.int .i64 (rd_T73 l0_2 (rd_T50 l1 ji).f0).f6.f0) ∧ w'.cell? ⟨(ae.add ((rd_T50 l1 ji).f0.toNat * 9)).block, (ae.add ((rd_T50 l1 ji).f0.toNat * 9)).off + 7, none⟩ = some (.int .i64 (rd_T73 l0_2 (rd_T50 l1 ji).f0).f6.f1) ∧ w'.cell? ⟨(ae.add ((rd_T50 l1 ji).f0.toNat * 9)).block, (ae.add ((rd_T50 l1 ji).f0.toNat * 9)).off + 8, none⟩ = some (.int .i64 (rd_T73 l0_2 (rd_T50 l1 ji).f0).f6.f2)) (simp (maxDischargeDepth := 8) [*, World.cell?_alloc_some, World.cell?_setCell_far, World.cell?_alloc_past]) (fail)
 clear hc0 hd0 ha0 ha1 ha2 ha3 ha4 ha5 ha6 ha7 ha8 hb0 hb1 hb2 hb3 hb4 hb5 hb6 hb7 hb8
 go_wp2_with fail
 refine bodyPost_ret (results_cc rfl _ _ (w.heap.size + 1) (w.heap.size + 1 + 1) 73 73 #[.string (rd_T73 l0_2 (rd_T50 l1 0).f0).f0, .string (rd_T73 l0_2 (rd_T50 l1 0).f0).f1, .string (rd_T73 l0_2 (rd_T50 l1 0).f0).f2, .int .i64 (rd_T73 l0_2 (rd_T50 l1 0).f0).f3, .int .i64 (rd_T73 l0_2 (rd_T50 l1 0).f0).f4, .string (rd_T73 l0_2 (rd_T50 l1 0).f0).f5, .int .i64 (rd_T73 l0_2 (rd_T50 l1 0).f0).f6.f0, .int .i64 (rd_T73 l0_2 (rd_T50 l1 0).f0).f6.f1, .int .i64 (rd_T73 l0_2 (rd_T50 l1 0).f0).f6.f2] #[.string (rd_T73 l0_2 (rd_T50 l1 ji).f0).f0, .string (rd_T73 l0_2 (rd_T50 l1 ji).f0).f1, .string (rd_T73 l0_2 (rd_T50 l1 ji).f0).f2, .int .i64 (rd_T73 l0_2 (rd_T50 l1 ji).f0).f3, .int .i64 (rd_T73 l0_2 (rd_T50 l1 ji).f0).f4, .string (rd_T73 l0_2 (rd_T50 l1 ji).f0).f5, .int .i64 (rd_T73 l0_2 (rd_T50 l1 ji).f0).f6.f0, .int .i64 (rd_T73 l0_2 (rd_T50 l1 ji).f0).f6.f1, .int .i64 (rd_T73 l0_2 (rd_T50 l1 ji).f0).f6.f2] (0, 0) (0, 0) _ _ rfl ?g1 Tryz.underlying73 rfl (by kernel_rfl) rfl ?g2 Tryz.underlying73 rfl (by kernel_rfl)) rfl ?_
 case g1 => exact blk_drew (blk_alloc (by simpa using heap_alloc_new (w.alloc (.cells #[.slice A0_0 n0_0 c0_0, .slice A0_1 n0_1 c0_1, .slice (some ae) l0_2.length c0_2] 32)) (.cells #[.string (rd_T73 l0_2 (rd_T50 l1 0).f0).f0, .string (rd_T73 l0_2 (rd_T50 l1 0).f0).f1, .string (rd_T73 l0_2 (rd_T50 l1 0).f0).f2, .int .i64 (rd_T73 l0_2 (rd_T50 l1 0).f0).f3, .int .i64 (rd_T73 l0_2 (rd_T50 l1 0).f0).f4, .string (rd_T73 l0_2 (rd_T50 l1 0).f0).f5, .int .i64 (rd_T73 l0_2 (rd_T50 l1 0).f0).f6.f0, .int .i64 (rd_T73 l0_2 (rd_T50 l1 0).f0).f6.f1, .int .i64 (rd_T73 l0_2 (rd_T50 l1 0).f0).f6.f2] 73)) _)
 case g2 => exact blk_drew (by simpa using heap_alloc_new ((w.alloc (.cells #[.slice A0_0 n0_0 c0_0, .slice A0_1 n0_1 c0_1, .slice (some ae) l0_2.length c0_2] 32)).alloc (.cells #[.string (rd_T73 l0_2 (rd_T50 l1 0).f0).f0, .string (rd_T73 l0_2 (rd_T50 l1 0).f0).f1, .string (rd_T73 l0_2 (rd_T50 l1 0).f0).f2, .int .i64 (rd_T73 l0_2 (rd_T50 l1 0).f0).f3, .int .i64 (rd_T73 l0_2 (rd_T50 l1 0).f0).f4, .string (rd_T73 l0_2 (rd_T50 l1 0).f0).f5, .int .i64 (rd_T73 l0_2 (rd_T50 l1 0).f0).f6.f0, .int .i64 (rd_T73 l0_2 (rd_T50 l1 0).f0).f6.f1, .int .i64 (rd_T73 l0_2 (rd_T50 l1 0).f0).f6.f2] 73)) (.cells #[.string (rd_T73 l0_2 (rd_T50 l1 ji).f0).f0, .string (rd_T73 l0_2 (rd_T50 l1 ji).f0).f1, .string (rd_T73 l0_2 (rd_T50 l1 ji).f0).f2, .int .i64 (rd_T73 l0_2 (rd_T50 l1 ji).f0).f3, .int .i64 (rd_T73 l0_2 (rd_T50 l1 ji).f0).f4, .string (rd_T73 l0_2 (rd_T50 l1 ji).f0).f5, .int .i64 (rd_T73 l0_2 (rd_T50 l1 ji).f0).f6.f0, .int .i64 (rd_T73 l0_2 (rd_T50 l1 ji).f0).f6.f1, .int .i64 (rd_T73 l0_2 (rd_T50 l1 ji).f0).f6.f2] 73))
 exact ⟨rfl, by repeat (first | exact HB.out | apply below_alloc | apply pw_below_drewN | apply below_drew1)⟩
def endsF (l0_2 : List S73) (l1 : List S50) (ji : Int) : Option (ByteArray × ByteArray × ByteArray × Int × Int × ByteArray × Int × Int × Int × ByteArray × ByteArray × ByteArray × Int × Int × ByteArray × Int × Int × Int) := if 1 ≤ l1.length then if 0 ≤ ji then if ji < (l1.length : Int) then if 0 ≤ (rd_T50 l1 0).f0 then if (rd_T50 l1 0).f0 < (l0_2.length : Int) then if 0 ≤ (rd_T50 l1 ji).f0 then if (rd_T50 l1 ji).f0 < (l0_2.length : Int) then some ((rd_T73 l0_2 (rd_T50 l1 0).f0).f0, (rd_T73 l0_2 (rd_T50 l1 0).f0).f1, (rd_T73 l0_2 (rd_T50 l1 0).f0).f2, (rd_T73 l0_2 (rd_T50 l1 0).f0).f3, (rd_T73 l0_2 (rd_T50 l1 0).f0).f4, (rd_T73 l0_2 (rd_T50 l1 0).f0).f5, (rd_T73 l0_2 (rd_T50 l1 0).f0).f6.f0, (rd_T73 l0_2 (rd_T50 l1 0).f0).f6.f1, (rd_T73 l0_2 (rd_T50 l1 0).f0).f6.f2, (rd_T73 l0_2 (rd_T50 l1 ji).f0).f0, (rd_T73 l0_2 (rd_T50 l1 ji).f0).f1, (rd_T73 l0_2 (rd_T50 l1 ji).f0).f2, (rd_T73 l0_2 (rd_T50 l1 ji).f0).f3, (rd_T73 l0_2 (rd_T50 l1 ji).f0).f4, (rd_T73 l0_2 (rd_T50 l1 ji).f0).f5, (rd_T73 l0_2 (rd_T50 l1 ji).f0).f6.f0, (rd_T73 l0_2 (rd_T50 l1 ji).f0).f6.f1, (rd_T73 l0_2 (rd_T50 l1 ji).f0).f6.f2) else none else none else none else none else none else none else none
def measure_ends.f (l0_0 : List (S83)) (l0_1 : List (S86)) (l0_2 : List (S73)) (l1 : List (S50)) : Option (ByteArray × ByteArray × ByteArray × Int × Int × ByteArray × Int × Int × Int × ByteArray × ByteArray × ByteArray × Int × Int × ByteArray × Int × Int × Int) := endsF l0_2 l1 (wrap64 ((l1.length : Int) - 1))
theorem measure_ends.calls (A0_0 : Option Addr) (c0_0 : Nat) (l0_0 : List (S83)) (A0_1 : Option Addr) (c0_1 : Nat) (l0_1 : List (S86)) (A0_2 : Option Addr) (c0_2 : Nat) (l0_2 : List (S73)) (A1 : Option Addr) (c1 : Nat) (l1 : List (S50)) (r1 : ByteArray) (r2 : ByteArray) (r3 : ByteArray) (r4 : Int) (r5 : Int) (r6 : ByteArray) (r7 : Int) (r8 : Int) (r9 : Int) (r10 : ByteArray) (r11 : ByteArray) (r12 : ByteArray) (r13 : Int) (r14 : Int) (r15 : ByteArray) (r16 : Int) (r17 : Int) (r18 : Int) (w : World) (hr0_0 : Kd.C k83 w A0_0 l0_0.length l0_0) (hc0_0 : l0_0.length ≤ c0_0) (hr0_1 : Kd.C k86 w A0_1 l0_1.length l0_1) (hc0_1 : l0_1.length ≤ c0_1) (hr0_2 : Kd.C k73 w A0_2 l0_2.length l0_2) (hc0_2 : l0_2.length ≤ c0_2) (hr1 : Kd.C k50 w A1 l1.length l1) (hc1 : l1.length ≤ c1) (h : measure_ends.f l0_0 l0_1 l0_2 l1 = some (r1, r2, r3, r4, r5, r6, r7, r8, r9, r10, r11, r12, r13, r14, r15, r16, r17, r18)) :
  Calls Tryz.prog 28 #[.agg #[.slice A0_0 l0_0.length c0_0, .slice A0_1 l0_1.length c0_1, .slice A0_2 l0_2.length c0_2], .slice A1 l1.length c1] w fun e w' => e = .returned (.tuple #[.agg #[.string r1, .string r2, .string r3, .int .i64 r4, .int .i64 r5, .string r6, .int .i64 r7, .int .i64 r8, .int .i64 r9], .agg #[.string r10, .string r11, .string r12, .int .i64 r13, .int .i64 r14, .string r15, .int .i64 r16, .int .i64 r17, .int .i64 r18]]) ∧ Below w.heap.size w w' := by
 unfold measure_ends.f at h
 obtain ⟨ji, hj⟩ : ∃ j : Int, wrap64 ((l1.length : Int) - 1) = j := ⟨_, rfl⟩
 rw [hj] at h
 have hjw : IntKind.i64.wrap ((l1.length : Int) - 1) = ji := (i64_w _).trans hj
 unfold endsF at h
 by_cases q0 : 1 ≤ l1.length
 case neg => rw [if_neg q0] at h; cases h
 rw [if_pos q0] at h
 by_cases q1 : 0 ≤ ji
 case neg => rw [if_neg q1] at h; cases h
 rw [if_pos q1] at h
 by_cases q2 : ji < (l1.length : Int)
 case neg => rw [if_neg q2] at h; cases h
 rw [if_pos q2] at h
 by_cases q3 : 0 ≤ (rd_T50 l1 0).f0
 case neg => rw [if_neg q3] at h; cases h
 rw [if_pos q3] at h
 by_cases q4 : (rd_T50 l1 0).f0 < (l0_2.length : Int)
 case neg => rw [if_neg q4] at h; cases h
 rw [if_pos q4] at h
 by_cases q5 : 0 ≤ (rd_T50 l1 ji).f0
 case neg => rw [if_neg q5] at h; cases h
 rw [if_pos q5] at h
 by_cases q6 : (rd_T50 l1 ji).f0 < (l0_2.length : Int)
 case neg => rw [if_neg q6] at h; cases h
 rw [if_pos q6] at h
 simp only [Option.some.injEq, Prod.mk.injEq] at h
 obtain ⟨rfl, rfl, rfl, rfl, rfl, rfl, rfl, rfl, rfl, rfl, rfl, rfl, rfl, rfl, rfl, rfl, rfl, rfl⟩ := h
 obtain ⟨ad, ea, -⟩ := at_T50 hr1 0 (by omega) (by omega)
 obtain ⟨ae, eb, -⟩ := at_T73 hr0_2 _ q3 q4
 subst ea
 subst eb
 exact ends28 _ _ _ _ _ _ _ _ _ _ _ _ _ _ hr0_2 hr1 hjw q0 q1 q2 q3 q4 q5 q6
end Go.Proofs.YtilnppdognejbaaGreatDoor.P
namespace Go.Proofs.YtilnppdognejbaaGreatDoor.P
open Go.RowKit Go.Proofs.YtilnppdognejbaaGreatDoorW.PrintWords Go.Proofs.YtilnppdognejbaaGreatDoorW.PrintLast Go.Proofs.YtilnppdognejbaaGreatDoorW.PrintMore
attribute [local go_sem] max2_int min2_int max_two min_two max_three min_three max_four min_four   -- for this text's walks alone
set_option linter.unusedVariables false
set_option linter.unusedSimpArgs false
def measure_span.f (l0_0 : List (S83)) (l0_1 : List (S86)) (l0_2 : List (S73)) (a1_0 : Int) (a1_1 : Int) (a1_2 : Int) (a1_3 : Int) (a1_4 : Int) (a1_5 : Int) (a1_6 : Int) (l1_7 : List (S105)) (l1_8 : List (S107)) (l1_9 : List (S109)) (l1_10 : List (S103)) (l1_11 : List (S154)) (l1_12 : List (S161)) (a1_13 : Int) (l2 : List (S50)) : Option (Int × Int) := (measure_ends.f l0_0 l0_1 l0_2 l2).bind fun bt186 => (some (wrap64 (bt186.2.2.2.1 - a1_0), wrap64 (bt186.2.2.2.2.2.2.2.2.2.2.2.2.2.1 + a1_1)))
set_option maxHeartbeats 8000000 in
set_option maxRecDepth 100000 in
theorem measure_span.calls (A0_0 : Option Addr) (c0_0 : Nat) (l0_0 : List (S83)) (A0_1 : Option Addr) (c0_1 : Nat) (l0_1 : List (S86)) (A0_2 : Option Addr) (c0_2 : Nat) (l0_2 : List (S73)) (a1_0 : Int) (a1_1 : Int) (a1_2 : Int) (a1_3 : Int) (a1_4 : Int) (a1_5 : Int) (a1_6 : Int) (A1_7 : Option Addr) (c1_7 : Nat) (l1_7 : List (S105)) (A1_8 : Option Addr) (c1_8 : Nat) (l1_8 : List (S107)) (A1_9 : Option Addr) (c1_9 : Nat) (l1_9 : List (S109)) (A1_10 : Option Addr) (c1_10 : Nat) (l1_10 : List (S103)) (A1_11 : Option Addr) (c1_11 : Nat) (l1_11 : List (S154)) (A1_12 : Option Addr) (c1_12 : Nat) (l1_12 : List (S161)) (a1_13 : Int) (A2 : Option Addr) (c2 : Nat) (l2 : List (S50)) (r1 : Int) (r2 : Int) (w : World) (hr0_0 : Kd.C k83 w A0_0 l0_0.length l0_0) (hc0_0 : l0_0.length ≤ c0_0) (hr0_1 : Kd.C k86 w A0_1 l0_1.length l0_1) (hc0_1 : l0_1.length ≤ c0_1) (hr0_2 : Kd.C k73 w A0_2 l0_2.length l0_2) (hc0_2 : l0_2.length ≤ c0_2) (hr1_7 : Kd.C k105 w A1_7 l1_7.length l1_7) (hc1_7 : l1_7.length ≤ c1_7) (hr1_8 : Kd.C k107 w A1_8 l1_8.length l1_8) (hc1_8 : l1_8.length ≤ c1_8) (hr1_9 : Kd.C k109 w A1_9 l1_9.length l1_9) (hc1_9 : l1_9.length ≤ c1_9) (hr1_10 : Kd.C k103 w A1_10 l1_10.length l1_10) (hc1_10 : l1_10.length ≤ c1_10) (hr1_11 : Kd.C k154 w A1_11 l1_11.length l1_11) (hc1_11 : l1_11.length ≤ c1_11) (hr1_12 : Kd.C k161 w A1_12 l1_12.length l1_12) (hc1_12 : l1_12.length ≤ c1_12) (hr2 : Kd.C k50 w A2 l2.length l2) (hc2 : l2.length ≤ c2) (h : measure_span.f l0_0 l0_1 l0_2 a1_0 a1_1 a1_2 a1_3 a1_4 a1_5 a1_6 l1_7 l1_8 l1_9 l1_10 l1_11 l1_12 a1_13 l2 = some (r1, r2)) :
  Calls Tryz.prog 55 #[.agg #[.slice A0_0 l0_0.length c0_0, .slice A0_1 l0_1.length c0_1, .slice A0_2 l0_2.length c0_2], .agg #[.int .i64 a1_0, .int .i64 a1_1, .int .i64 a1_2, .int .i64 a1_3, .int .i64 a1_4, .int .i64 a1_5, .int .i64 a1_6, .slice A1_7 l1_7.length c1_7, .slice A1_8 l1_8.length c1_8, .slice A1_9 l1_9.length c1_9, .slice A1_10 l1_10.length c1_10, .slice A1_11 l1_11.length c1_11, .slice A1_12 l1_12.length c1_12, .int .i64 a1_13], .slice A2 l2.length c2] w fun e w' => e = .returned (.agg #[.int .i64 r1, .int .i64 r2]) ∧ Below w.heap.size w w' := by
 have hu32 := Tryz.underlying32
 have hu40 := Tryz.underlying40
 have hu114 := Tryz.underlying114
 have hu73 := Tryz.underlying73
 have HR0_0 := Aside0.mk hr0_0
 have HC0_0 := Aside0.mk hc0_0
 clear hr0_0 hc0_0
 have HR0_1 := Aside0.mk hr0_1
 have HC0_1 := Aside0.mk hc0_1
 clear hr0_1 hc0_1
 have HR0_2 := Aside0.mk hr0_2
 have HC0_2 := Aside0.mk hc0_2
 clear hr0_2 hc0_2
 have HR1_7 := Aside0.mk hr1_7
 have HC1_7 := Aside0.mk hc1_7
 clear hr1_7 hc1_7
 have HR1_8 := Aside0.mk hr1_8
 have HC1_8 := Aside0.mk hc1_8
 clear hr1_8 hc1_8
 have HR1_9 := Aside0.mk hr1_9
 have HC1_9 := Aside0.mk hc1_9
 clear hr1_9 hc1_9
 have HR1_10 := Aside0.mk hr1_10
 have HC1_10 := Aside0.mk hc1_10
 clear hr1_10 hc1_10
 have HR1_11 := Aside0.mk hr1_11
 have HC1_11 := Aside0.mk hc1_11
 clear hr1_11 hc1_11
 have HR1_12 := Aside0.mk hr1_12
 have HC1_12 := Aside0.mk hc1_12
 clear hr1_12 hc1_12
 have HR2 := Aside0.mk hr2
 have HC2 := Aside0.mk hc2
 clear hr2 hc2
 have HB := Aside0.mk (Below.refl w.heap.size w)
 have H : ((measure_ends.f l0_0 l0_1 l0_2 l2).bind fun bt186 => (some (wrap64 (bt186.2.2.2.1 - a1_0), wrap64 (bt186.2.2.2.2.2.2.2.2.2.2.2.2.2.1 + a1_1)))) = some (r1, r2) := h
 clear h
 replace H := Option.bind_eq_some_iff.mp H
 obtain ⟨⟨t186, t187, t188, t189, t190, t191, t192, t193, t194, t195, t196, t197, t198, t199, t200, t201, t202, t203⟩, A40, H⟩ := H
 replace H : (some (wrap64 (t189 - a1_0), wrap64 (t199 + a1_1))) = some (r1, r2) := H
 have A4 := Aside0.mk A40
 clear A40
 simp only [Option.some.injEq, Prod.mk.injEq] at H
 obtain ⟨rfl, rfl⟩ := H
 go_enter Tryz.func55, Tryz.ntmps55
 go_wp2_with (first | ((with_reducible refine gate_dst (N := 3) rfl ?_); refine box_event ?hg (N := 3) ?hd (cs := #[.slice A0_0 l0_0.length c0_0, .slice A0_1 l0_1.length c0_1, .slice A0_2 l0_2.length c0_2]) (t := 32) ?hr ?_; (case hd => rfl); (case hg => rfl); (case hr => first | (go_simp; done) | (go_simp; rfl)); intro gb183 hg w5 hbox hb; have BK183 := Aside0.mk hbox; have GE183 := Aside0.mk ((by rw [hg]; exact (below_size hbk) : w.heap.size ≤ gb183)); replace HB := Aside0.mk (below_step hbk hb); clear hb hbox hg) | ((with_reducible refine gate_dst (N := 4) rfl ?_); refine box_event ?hg (N := 4) ?hd (cs := #[.int .i64 a1_0, .int .i64 a1_1, .int .i64 a1_2, .int .i64 a1_3, .int .i64 a1_4, .int .i64 a1_5, .int .i64 a1_6, .slice A1_7 l1_7.length c1_7, .slice A1_8 l1_8.length c1_8, .slice A1_9 l1_9.length c1_9, .slice A1_10 l1_10.length c1_10, .slice A1_11 l1_11.length c1_11, .slice A1_12 l1_12.length c1_12, .int .i64 a1_13]) (t := 40) ?hr ?_; (case hd => rfl); (case hg => rfl); (case hr => first | (go_simp; done) | (go_simp; rfl)); intro gb184 hg w6 hbox hb; have BK184 := Aside0.mk hbox; have GE184 := Aside0.mk ((by rw [hg]; exact (below_size hbk) : w.heap.size ≤ gb184)); have NB183_184 := Aside0.mk ((by rw [hg]; exact Nat.ne_of_lt (blk_ltB BK183.out) : gb183 ≠ gb184)); have NB184_183 := Aside0.mk ((by rw [hg]; exact Nat.ne_of_gt (blk_ltB BK183.out) : gb184 ≠ gb183)); replace BK183 := Aside0.mk (blk_belowB BK183.out hb); replace HB := Aside0.mk (below_step hbk hb); clear hb hbox hg) | ((with_reducible refine gate_dst (N := 6) rfl ?_); refine box_event ?hg (N := 6) ?hd (cs := #[.int .i64 0, .int .i64 0]) (t := 114) ?hr ?_; (case hd => rfl); (case hg => rfl); (case hr => first | (go_simp; done) | (go_simp; rfl)); intro gb185 hg w7 hbox hb; have BK185 := Aside0.mk hbox; have GE185 := Aside0.mk ((by rw [hg]; exact (below_size hbk) : w.heap.size ≤ gb185)); have NB183_185 := Aside0.mk ((by rw [hg]; exact Nat.ne_of_lt (blk_ltB BK183.out) : gb183 ≠ gb185)); have NB185_183 := Aside0.mk ((by rw [hg]; exact Nat.ne_of_gt (blk_ltB BK183.out) : gb185 ≠ gb183)); have NB184_185 := Aside0.mk ((by rw [hg]; exact Nat.ne_of_lt (blk_ltB BK184.out) : gb184 ≠ gb185)); have NB185_184 := Aside0.mk ((by rw [hg]; exact Nat.ne_of_gt (blk_ltB BK184.out) : gb185 ≠ gb184)); replace BK183 := Aside0.mk (blk_belowB BK183.out hb); replace BK184 := Aside0.mk (blk_belowB BK184.out hb); replace HB := Aside0.mk (below_step hbk hb); clear hb hbox hg; have hnb8 := NB183_184.out; have hnc8 := NB184_183.out; have hnb9 := NB183_185.out; have hnc9 := NB185_183.out; obtain ⟨hcz10_0, hcz10_1, hcz10_2⟩ := blk_cs3 BK183.out; obtain ⟨hfz10_0, hfz10_1, hfz10_2⟩ := blk_fs3 BK183.out) | ((with_reducible refine gate_callee (f := 28) rfl ?_); refine goesL_ (some 12) rfl rfl Tryz.func28 (by kernel_rfl) rfl #[.agg #[.slice A0_0 l0_0.length c0_0, .slice A0_1 l0_1.length c0_1, .slice A0_2 l0_2.length c0_2], .slice A2 l2.length c2] rfl hgl ?_; (with_reducible refine (measure_ends.calls _ _ l0_0 _ _ l0_1 _ _ l0_2 _ _ l2 t186 t187 t188 t189 t190 t191 t192 t193 t194 t195 t196 t197 t198 t199 t200 t201 t202 t203 _ ?side1 ?side2 ?side3 ?side4 ?side5 ?side6 ?side7 ?side8 A4.out).mono ?_); (case side1 => exact Kd.C_below HR0_0.out hbk); (case side2 => exact HC0_0.out); (case side3 => exact Kd.C_below HR0_1.out hbk); (case side4 => exact HC0_1.out); (case side5 => exact Kd.C_below HR0_2.out hbk); (case side6 => exact HC0_2.out); (case side7 => exact Kd.C_below HR2.out hbk); (case side8 => exact HC2.out); rintro e w11 ⟨rfl, hb⟩; refine ⟨_, rfl, ?_⟩; have n0_ := Aside0.mk (blk_belowB BK183.out hb); have n1_ := Aside0.mk (blk_belowB BK184.out hb); have n2_ := Aside0.mk (blk_belowB BK185.out hb); have n3_ := Aside0.mk (below_step hbk hb); clear BK183; clear BK184; clear BK185; clear HB; have BK183 := n0_; have BK184 := n1_; have BK185 := n2_; have HB := n3_; clear n0_ n1_ n2_ n3_; (try clear hb); (try clear hb2); (try clear hk); (try clear hi)) | ((with_reducible refine gate_dst (N := 7) rfl ?_); refine box_event ?hg (N := 7) ?hd (cs := #[.string (⟨#[]⟩ : ByteArray), .string (⟨#[]⟩ : ByteArray), .string (⟨#[]⟩ : ByteArray), .int .i64 0, .int .i64 0, .string (⟨#[]⟩ : ByteArray), .int .i64 0, .int .i64 0, .int .i64 0]) (t := 73) ?hr ?_; (case hd => rfl); (case hg => rfl); (case hr => first | (go_simp; done) | (go_simp; rfl)); intro gb204 hg w12 hbox hb; have n0_ := Aside0.mk (blk_belowB BK183.out hb); have n1_ := Aside0.mk (blk_belowB BK184.out hb); have n2_ := Aside0.mk (blk_belowB BK185.out hb); have n3_ := Aside0.mk (below_step hbk hb); have n4_ := Aside0.mk hbox; have n5_ := Aside0.mk ((by rw [hg]; exact (below_size hbk) : w.heap.size ≤ gb204)); have n6_ := Aside0.mk ((by rw [hg]; exact (below_size hbk) : w.heap.size ≤ gb204)); have n7_ := Aside0.mk ((by rw [hg]; exact Nat.ne_of_lt (blk_ltB BK183.out) : gb183 ≠ gb204)); have n8_ := Aside0.mk ((by rw [hg]; exact Nat.ne_of_gt (blk_ltB BK183.out) : gb204 ≠ gb183)); have n9_ := Aside0.mk ((by rw [hg]; exact Nat.ne_of_lt (blk_ltB BK184.out) : gb184 ≠ gb204)); have n10_ := Aside0.mk ((by rw [hg]; exact Nat.ne_of_gt (blk_ltB BK184.out) : gb204 ≠ gb184)); have n11_ := Aside0.mk ((by rw [hg]; exact Nat.ne_of_lt (blk_ltB BK185.out) : gb185 ≠ gb204)); have n12_ := Aside0.mk ((by rw [hg]; exact Nat.ne_of_gt (blk_ltB BK185.out) : gb204 ≠ gb185)); clear BK183; clear BK184; clear BK185; clear HB; have BK183 := n0_; have BK184 := n1_; have BK185 := n2_; have HB := n3_; have BK204 := n4_; have GW204 := n5_; have GE204 := n6_; have NB183_204 := n7_; have NB204_183 := n8_; have NB184_204 := n9_; have NB204_184 := n10_; have NB185_204 := n11_; have NB204_185 := n12_; clear n0_ n1_ n2_ n3_ n4_ n5_ n6_ n7_ n8_ n9_ n10_ n11_ n12_; clear hb hbox hg) | ((with_reducible refine gate_dst (N := 8) rfl ?_); refine box_event ?hg (N := 8) ?hd (cs := #[.string (⟨#[]⟩ : ByteArray), .string (⟨#[]⟩ : ByteArray), .string (⟨#[]⟩ : ByteArray), .int .i64 0, .int .i64 0, .string (⟨#[]⟩ : ByteArray), .int .i64 0, .int .i64 0, .int .i64 0]) (t := 73) ?hr ?_; (case hd => rfl); (case hg => rfl); (case hr => first | (go_simp; done) | (go_simp; rfl)); intro gb205 hg w13 hbox hb; have n0_ := Aside0.mk (blk_belowB BK183.out hb); have n1_ := Aside0.mk (blk_belowB BK184.out hb); have n2_ := Aside0.mk (blk_belowB BK185.out hb); have n3_ := Aside0.mk (blk_belowB BK204.out hb); have n4_ := Aside0.mk (below_step hbk hb); have n5_ := Aside0.mk hbox; have n6_ := Aside0.mk ((by rw [hg]; exact (below_size hbk) : w.heap.size ≤ gb205)); have n7_ := Aside0.mk ((by rw [hg]; exact (below_size hbk) : w.heap.size ≤ gb205)); have n8_ := Aside0.mk ((by rw [hg]; exact Nat.ne_of_lt (blk_ltB BK183.out) : gb183 ≠ gb205)); have n9_ := Aside0.mk ((by rw [hg]; exact Nat.ne_of_gt (blk_ltB BK183.out) : gb205 ≠ gb183)); have n10_ := Aside0.mk ((by rw [hg]; exact Nat.ne_of_lt (blk_ltB BK184.out) : gb184 ≠ gb205)); have n11_ := Aside0.mk ((by rw [hg]; exact Nat.ne_of_gt (blk_ltB BK184.out) : gb205 ≠ gb184)); have n12_ := Aside0.mk ((by rw [hg]; exact Nat.ne_of_lt (blk_ltB BK185.out) : gb185 ≠ gb205)); have n13_ := Aside0.mk ((by rw [hg]; exact Nat.ne_of_gt (blk_ltB BK185.out) : gb205 ≠ gb185)); have n14_ := Aside0.mk ((by rw [hg]; exact Nat.ne_of_lt (blk_ltB BK204.out) : gb204 ≠ gb205)); have n15_ := Aside0.mk ((by rw [hg]; exact Nat.ne_of_gt (blk_ltB BK204.out) : gb205 ≠ gb204)); clear BK183; clear BK184; clear BK185; clear BK204; clear HB; have BK183 := n0_; have BK184 := n1_; have BK185 := n2_; have BK204 := n3_; have HB := n4_; have BK205 := n5_; have GW205 := n6_; have GE205 := n7_; have NB183_205 := n8_; have NB205_183 := n9_; have NB184_205 := n10_; have NB205_184 := n11_; have NB185_205 := n12_; have NB205_185 := n13_; have NB204_205 := n14_; have NB205_204 := n15_; clear n0_ n1_ n2_ n3_ n4_ n5_ n6_ n7_ n8_ n9_ n10_ n11_ n12_ n13_ n14_ n15_; clear hb hbox hg; have hnb14 := NB204_183.out; have hnc14 := NB183_204.out; have hnb15 := NB204_184.out; have hnc15 := NB184_204.out; have hnb16 := NB204_185.out; have hnc16 := NB185_204.out; have hnb17 := NB204_205.out; have hnc17 := NB205_204.out; obtain ⟨hcz18_0, hcz18_1, hcz18_2, hcz18_3, hcz18_4, hcz18_5, hcz18_6, hcz18_7, hcz18_8⟩ := blk_cs9 BK204.out; obtain ⟨hfz18_0, hfz18_1, hfz18_2, hfz18_3, hfz18_4, hfz18_5, hfz18_6, hfz18_7, hfz18_8⟩ := blk_fs9 BK204.out; have hnb19 := NB205_183.out; have hnc19 := NB183_205.out; have hnb20 := NB205_184.out; have hnc20 := NB184_205.out; have hnb21 := NB205_185.out; have hnc21 := NB185_205.out; obtain ⟨hcz22_0, hcz22_1, hcz22_2, hcz22_3, hcz22_4, hcz22_5, hcz22_6, hcz22_7, hcz22_8⟩ := blk_cs9 BK205.out; obtain ⟨hfz22_0, hfz22_1, hfz22_2, hfz22_3, hfz22_4, hfz22_5, hfz22_6, hfz22_7, hfz22_8⟩ := blk_fs9 BK205.out; have hnb23 := NB184_185.out; have hnc23 := NB185_184.out; obtain ⟨hcz24_0, hcz24_1, hcz24_2, hcz24_3, hcz24_4, hcz24_5, hcz24_6, hcz24_7, hcz24_8, hcz24_9, hcz24_10, hcz24_11, hcz24_12, hcz24_13⟩ := blk_cs14 BK184.out; obtain ⟨hfz24_0, hfz24_1, hfz24_2, hfz24_3, hfz24_4, hfz24_5, hfz24_6, hfz24_7, hfz24_8, hfz24_9, hfz24_10, hfz24_11, hfz24_12, hfz24_13⟩ := blk_fs14 BK184.out; obtain ⟨hcz25_0, hcz25_1⟩ := blk_cs2 BK185.out; obtain ⟨hfz25_0, hfz25_1⟩ := blk_fs2 BK185.out))
 refine bodyPost_ret (results_cell_row rfl _ _ gb185 114 #[.int .i64 (wrap64 (t189 - a1_0)), .int .i64 (wrap64 (t199 + a1_1))] (0, 0) _ rfl (by (with_reducible repeat (first | refine blk_drewN ?_ _ | refine blk_drew ?_ | refine blk_alloc ?_ _)); refine blk_put (cs := #[.int .i64 (wrap64 (t189 - a1_0)), .int .i64 0]) ?_ 1 _ rfl; refine blk_put (cs := #[.int .i64 0, .int .i64 0]) ?_ 0 _ rfl; refine blk_far ?_ NB185_205.out _; refine blk_far ?_ NB185_205.out _; refine blk_far ?_ NB185_205.out _; refine blk_far ?_ NB185_205.out _; refine blk_far ?_ NB185_205.out _; refine blk_far ?_ NB185_205.out _; refine blk_far ?_ NB185_205.out _; refine blk_far ?_ NB185_205.out _; refine blk_far ?_ NB185_205.out _; refine blk_far ?_ NB185_204.out _; refine blk_far ?_ NB185_204.out _; refine blk_far ?_ NB185_204.out _; refine blk_far ?_ NB185_204.out _; refine blk_far ?_ NB185_204.out _; refine blk_far ?_ NB185_204.out _; refine blk_far ?_ NB185_204.out _; refine blk_far ?_ NB185_204.out _; refine blk_far ?_ NB185_204.out _; (with_reducible repeat (first | refine blk_drewN ?_ _ | refine blk_drew ?_ | refine blk_alloc ?_ _)); exact BK185.out) Tryz.underlying114 rfl (by kernel_rfl)) rfl ?_
 exact ⟨hrf, hbk⟩
end Go.Proofs.YtilnppdognejbaaGreatDoor.P
namespace Go.Proofs.YtilnppdognejbaaGreatDoor.P
open Go.RowKit Go.Proofs.YtilnppdognejbaaGreatDoorW.PrintWords Go.Proofs.YtilnppdognejbaaGreatDoorW.PrintLast Go.Proofs.YtilnppdognejbaaGreatDoorW.PrintMore
attribute [local go_sem] max2_int min2_int max_two min_two max_three min_three max_four min_four   -- for this text's walks alone
set_option linter.unusedVariables false
set_option linter.unusedSimpArgs false
def slices_Index_string_string.l0 : Nat → List ByteArray → ByteArray → Int → Int → Option (Int)
 | 0, _, _, _, _ => none
 | k + 1, x0, x1, x7, x8 => if x8 < x7 then (if 0 ≤ x8 then (if x8 < (x0.length : Int) then (if x1.toList = (rdOf ByteArray.empty x0 x8).toList then (some x8) else (slices_Index_string_string.l0 k x0 x1 x7 (wrap64 (x8 + 1)))) else (none)) else (none)) else (some (-1))
def slices_Index_string_string.f (k : Nat) (l0 : List ByteArray) (a1 : ByteArray) : Option (Int) := slices_Index_string_string.l0 k l0 a1 (l0.length : Int) 0
set_option maxHeartbeats 8000000 in
set_option maxRecDepth 100000 in
theorem slices_Index_string_string.calls (k : Nat) (A0 : Option Addr) (c0 : Nat) (l0 : List ByteArray) (a1 : ByteArray) (r : Int) (w : World) (hr0 : Kd.C Kd.string w A0 l0.length l0) (hc0 : l0.length ≤ c0) (h : slices_Index_string_string.f k l0 a1 = some r) :
  Calls Tryz.prog 110 #[.slice A0 l0.length c0, .string a1] w fun e w' => e = .returned (.int .i64 r) ∧ Drawn0 w w' := by
 have HR0 := Aside0.mk hr0
 have HC0 := Aside0.mk hc0
 clear hr0 hc0
 have H : (slices_Index_string_string.l0 k l0 a1 (l0.length : Int) 0) = some r := h
 clear h
 have H' := Aside0.mk H
 clear H
 go_enter Tryz.func110, Tryz.ntmps110
 go_wp2
 go_loopg [8] k (fun kq v8 w' => ∃ (x8_1 : Int), v8 = .int .i64 x8_1 ∧ Aside0 (slices_Index_string_string.l0 kq l0 a1 (l0.length : Int) x8_1 = some r) ∧ Aside0 (kq ≤ k) ∧ Drawn0 w w')
 case atStart => exact ⟨(0), (by first | rfl | (simp; done) | (simp [*]; done)), H', ⟨Nat.le_refl _⟩, by repeat (first | exact Drawn0.refl _ | apply Drawn0.step)⟩
 case round =>
  clear H'
  try clear c1
  try clear p2
  obtain ⟨x8_1, rfl, HA, HK1, ⟨m1, rfl⟩⟩ := hrel
  cases gk with
  | zero => exact absurd HA.out (by simp [slices_Index_string_string.l0])
  | succ k1 =>
   have H := HA.out
   clear HA
   simp only [slices_Index_string_string.l0] at H
   by_cases c3 : x8_1 < (l0.length : Int)
   ·rw [if_pos c3] at H
    have c3b0 : decide (x8_1 < (l0.length : Int)) = true := decide_eq_true c3
    clear c3
    by_cases c4 : 0 ≤ x8_1
    ·rw [if_pos c4] at H
     have c4b0 : decide (0 ≤ x8_1) = true := decide_eq_true c4
     clear c4
     by_cases c5 : x8_1 < (l0.length : Int)
     ·rw [if_pos c5] at H
      have c5b0 : decide (x8_1 < (l0.length : Int)) = true := decide_eq_true c5
      clear c5
      by_cases c6 : a1.toList = (rdOf ByteArray.empty l0 x8_1).toList
      ·rw [if_pos c6] at H
       have c6b0 : (a1.toList == (rdOf ByteArray.empty l0 x8_1).toList) = true := beq_iff_eq.mpr c6
       have c6b1 : (a1.toList != (rdOf ByteArray.empty l0 x8_1).toList) = false := bne_eq_false_iff_eq.mpr c6
       clear c6
       obtain rfl := Option.some.inj H
       have p163 : 0 ≤ (x8_1 : Int) := of_decide_eq_true (by first | (with_reducible assumption) | assumption)
       have q163 : x8_1 < (l0.length : Int) := of_decide_eq_true (by first | (with_reducible assumption) | assumption)
       obtain ⟨ad163, e163, hx163_0⟩ := Kd.at_string HR0.out x8_1 p163 q163
       cases e163
       replace p163 := eq_true p163
       replace q163 := eq_true q163
       go_wp2
       go_ret
       exact ⟨by first | rfl | (simp; done) | (simp [*]; done), by repeat (first | exact Drawn0.refl _ | apply Drawn0.step)⟩
      ·rw [if_neg c6] at H
       have c6b0 : (a1.toList == (rdOf ByteArray.empty l0 x8_1).toList) = false := beq_eq_false_iff_ne.mpr c6
       have c6b1 : (a1.toList != (rdOf ByteArray.empty l0 x8_1).toList) = true := bne_iff_ne.mpr c6
       have H' := Aside0.mk H
       clear H
       have p163 : 0 ≤ (x8_1 : Int) := of_decide_eq_true (by first | (with_reducible assumption) | assumption)
       have q163 : x8_1 < (l0.length : Int) := of_decide_eq_true (by first | (with_reducible assumption) | assumption)
       obtain ⟨ad163, e163, hx163_0⟩ := Kd.at_string HR0.out x8_1 p163 q163
       cases e163
       replace p163 := eq_true p163
       replace q163 := eq_true q163
       go_wp2
       go_roundg k1
       case measure => have := HK1.out; omega
       case rel => exact ⟨(wrap64 (x8_1 + 1)), (by first | rfl | (simp; done) | (simp [*]; done)), H', ⟨by have := HK1.out; omega⟩, by repeat (first | exact Drawn0.refl _ | apply Drawn0.step)⟩
     ·rw [if_neg c5] at H
      exact absurd H (by simp)
    ·rw [if_neg c4] at H
     exact absurd H (by simp)
   ·rw [if_neg c3] at H
    have c3b0 : decide (x8_1 < (l0.length : Int)) = false := decide_eq_false c3
    clear c3
    obtain rfl := Option.some.inj H
    go_wp2
    go_ret
    exact ⟨by first | rfl | (simp; done) | (simp [*]; done), by repeat (first | exact Drawn0.refl _ | apply Drawn0.step)⟩
end Go.Proofs.YtilnppdognejbaaGreatDoor.P
namespace Go.Proofs.YtilnppdognejbaaGreatDoor.P
open Go.RowKit Go.Proofs.YtilnppdognejbaaGreatDoorW.PrintWords Go.Proofs.YtilnppdognejbaaGreatDoorW.PrintLast Go.Proofs.YtilnppdognejbaaGreatDoorW.PrintMore
attribute [local go_sem] max2_int min2_int max_two min_two max_three min_three max_four min_four   -- for this text's walks alone
set_option linter.unusedVariables false
set_option linter.unusedSimpArgs false
def slices_Contains_string_string.f (k : Nat) (l0 : List ByteArray) (a1 : ByteArray) : Option (Bool) := (slices_Index_string_string.f k l0 a1).bind fun t164 => (some (decide (t164 ≥ 0)))
set_option maxHeartbeats 8000000 in
set_option maxRecDepth 100000 in
theorem slices_Contains_string_string.calls (k : Nat) (A0 : Option Addr) (c0 : Nat) (l0 : List ByteArray) (a1 : ByteArray) (r : Bool) (w : World) (hr0 : Kd.C Kd.string w A0 l0.length l0) (hc0 : l0.length ≤ c0) (h : slices_Contains_string_string.f k l0 a1 = some r) :
  Calls Tryz.prog 87 #[.slice A0 l0.length c0, .string a1] w fun e w' => e = .returned (.bool r) ∧ Drawn0 w w' := by
 have HR0 := Aside0.mk hr0
 have HC0 := Aside0.mk hc0
 clear hr0 hc0
 have H : ((slices_Index_string_string.f k l0 a1).bind fun t164 => (some (decide (t164 ≥ 0)))) = some r := h
 clear h
 replace H := Option.bind_eq_some_iff.mp H
 obtain ⟨t164, A30, H⟩ := H
 replace H : (some (decide (t164 ≥ 0))) = some r := H
 have A3 := Aside0.mk A30
 clear A30
 obtain rfl := Option.some.inj H
 go_enter Tryz.func87, Tryz.ntmps87
 go_wp2_with (first | ((with_reducible refine gate_callee (f := 110) rfl ?_); refine goesL_ (some 7) rfl rfl Tryz.func110 (by kernel_rfl) rfl #[.slice A0 l0.length c0, .string a1] rfl hgl ?_; (with_reducible refine (slices_Index_string_string.calls k _ _ l0 a1 t164 _ ?side1 ?side2 A3.out).mono ?_); (case side1 => repeat (first | exact HR0.out | (with_reducible refine Kd.C_alloc ?_ _) | (with_reducible refine Kd.C_drewN ?_ _) | (with_reducible refine Kd.C_drew ?_))); (case side2 => exact HC0.out); rintro e w' ⟨rfl, ⟨nd, rfl⟩⟩; refine ⟨_, rfl, ?_⟩))
 go_ret
 exact ⟨by first | rfl | (simp; done) | (simp [*]; done), by repeat (first | exact Drawn0.refl _ | apply Drawn0.step)⟩
end Go.Proofs.YtilnppdognejbaaGreatDoor.P
