/- Walks: each Go function named below, called with what its Lean function answers, returns just that; and the words of the print that they use (wip/xprint.py, wip/shrink.py, wip/prune.py over the kit's print; some by hand). Conditions: those in each theorem. -/
import Derived.Test.YtilnppdognejbaaGreatDoorPl1
import Derived.Test.YtilnppdognejbaaGreatDoorPl2
import Derived.Test.YtilnppdognejbaaGreatDoorPl3
namespace Go.Proofs.YtilnppdognejbaaGreatDoor.P
open Go.RowKit Go.Proofs.YtilnppdognejbaaGreatDoorW.PrintWords Go.Proofs.YtilnppdognejbaaGreatDoorW.PrintLast Go.Proofs.YtilnppdognejbaaGreatDoorW.PrintMore
attribute [local go_sem] max2_int min2_int max_two min_two max_three min_three max_four min_four   -- for this text's walks alone
set_option linter.unusedVariables false
set_option linter.unusedSimpArgs false
def measure_dutyValues.f (k : Nat) (l0_0 : List (S83)) (l0_1 : List (S86)) (l0_2 : List (S73)) (a1_0 : Int) (a1_1 : Int) (a1_2 : Int) (a1_3 : Int) (a1_4 : Int) (a1_5 : Int) (a1_6 : Int) (l1_7 : List (S105)) (l1_8 : List (S107)) (l1_9 : List (S109)) (l1_10 : List (S103)) (l1_11 : List (S154)) (l1_12 : List (S161)) (a1_13 : Int) (l2 : List (S50)) : Option (List Int) := (measure_summed.f l0_0 l0_1 l0_2 l2).bind fun bt245 => ((measure_span.f l0_0 l0_1 l0_2 a1_0 a1_1 a1_2 a1_3 a1_4 a1_5 a1_6 l1_7 l1_8 l1_9 l1_10 l1_11 l1_12 a1_13 l2).bind fun bt253 => ((measure_ends.f l0_0 l0_1 l0_2 l2).bind fun bt257 => ((timetable_ZoneOf.f l0_0 l0_1 l0_2 bt257.2.1).bind fun bt277 => ((timetable_ZoneOf.f l0_0 l0_1 l0_2 bt257.2.2.2.2.2.2.2.2.2.2.2.1).bind fun bt284 => ((zone_BandMinutes.f k bt277.1 bt277.2.1 bt277.2.2.1 bt253.1 bt253.2 a1_5 a1_6).bind fun bt291 => ((zone_OffsetAt.f k bt277.1 bt277.2.1 bt277.2.2.1 bt253.1).bind fun bt293 => ((zone_OffsetAt.f k bt284.1 bt284.2.1 bt284.2.2.1 bt253.2).bind fun bt295 => ((calendar_SplitMinute.f (wrap64 (bt253.1 + bt293.1))).bind fun bt297 => ((calendar_SplitMinute.f (wrap64 (bt253.2 + bt295.1))).bind fun bt299 => (some (([bt245.1, bt245.2.1, (bt245.2.2.2.2.2.length : Int), bt245.2.2.1, wrap64 (bt253.2 - bt253.1), bt291.1, bt245.2.2.2.1, bt245.2.2.2.2.1, mx (wrap64 (bt293.1 - bt295.1)) (wrap64 (bt295.1 - bt293.1)), bt297.2, bt299.2] : List Int))))))))))))
def measure_dutyValues.T1 : Bool × List (List Nat × List Nat) := (true, [([], []), ([], []), ([0, 1], [0, 1]), ([], []), ([], []), ([], []), ([3, 4, 5, 2], [3, 4, 5]), ([], []), ([], []), ([7, 2, 6, 0, 1, 2, 7, 8], [2, 7]), ([8, 6, 9, 0, 1, 2, 3, 4, 5, 6, 7, 8, 9], [6, 8])])
def measure_dutyValues.B1 : List Nat := [0, 0, 3, 0, 0, 0, 63, 0, 0, 511, 1023]
theorem measure_dutyValues.tab1 : rtab .any (opsOf Tryz.f49 1) = measure_dutyValues.T1 := by kernel_rfl
theorem measure_dutyValues.bits1 : waitsOk measure_dutyValues.T1.2 measure_dutyValues.B1 = true := by kernel_rfl
set_option maxHeartbeats 8000000 in
set_option maxRecDepth 100000 in
theorem measure_dutyValues.calls (k : Nat) (A0_0 : Option Addr) (c0_0 : Nat) (l0_0 : List (S83)) (A0_1 : Option Addr) (c0_1 : Nat) (l0_1 : List (S86)) (A0_2 : Option Addr) (c0_2 : Nat) (l0_2 : List (S73)) (a1_0 : Int) (a1_1 : Int) (a1_2 : Int) (a1_3 : Int) (a1_4 : Int) (a1_5 : Int) (a1_6 : Int) (A1_7 : Option Addr) (c1_7 : Nat) (l1_7 : List (S105)) (A1_8 : Option Addr) (c1_8 : Nat) (l1_8 : List (S107)) (A1_9 : Option Addr) (c1_9 : Nat) (l1_9 : List (S109)) (A1_10 : Option Addr) (c1_10 : Nat) (l1_10 : List (S103)) (A1_11 : Option Addr) (c1_11 : Nat) (l1_11 : List (S154)) (A1_12 : Option Addr) (c1_12 : Nat) (l1_12 : List (S161)) (a1_13 : Int) (A2 : Option Addr) (c2 : Nat) (l2 : List (S50)) (r : List Int) (w : World) (hr0_0 : Kd.C k83 w A0_0 l0_0.length l0_0) (hc0_0 : l0_0.length ≤ c0_0) (hr0_1 : Kd.C k86 w A0_1 l0_1.length l0_1) (hc0_1 : l0_1.length ≤ c0_1) (hr0_2 : Kd.C k73 w A0_2 l0_2.length l0_2) (hc0_2 : l0_2.length ≤ c0_2) (hr1_7 : Kd.C k105 w A1_7 l1_7.length l1_7) (hc1_7 : l1_7.length ≤ c1_7) (hr1_8 : Kd.C k107 w A1_8 l1_8.length l1_8) (hc1_8 : l1_8.length ≤ c1_8) (hr1_9 : Kd.C k109 w A1_9 l1_9.length l1_9) (hc1_9 : l1_9.length ≤ c1_9) (hr1_10 : Kd.C k103 w A1_10 l1_10.length l1_10) (hc1_10 : l1_10.length ≤ c1_10) (hr1_11 : Kd.C k154 w A1_11 l1_11.length l1_11) (hc1_11 : l1_11.length ≤ c1_11) (hr1_12 : Kd.C k161 w A1_12 l1_12.length l1_12) (hc1_12 : l1_12.length ≤ c1_12) (hr2 : Kd.C k50 w A2 l2.length l2) (hc2 : l2.length ≤ c2) (h : measure_dutyValues.f k l0_0 l0_1 l0_2 a1_0 a1_1 a1_2 a1_3 a1_4 a1_5 a1_6 l1_7 l1_8 l1_9 l1_10 l1_11 l1_12 a1_13 l2 = some r) :
  Calls Tryz.prog 49 #[.agg #[.slice A0_0 l0_0.length c0_0, .slice A0_1 l0_1.length c0_1, .slice A0_2 l0_2.length c0_2], .agg #[.int .i64 a1_0, .int .i64 a1_1, .int .i64 a1_2, .int .i64 a1_3, .int .i64 a1_4, .int .i64 a1_5, .int .i64 a1_6, .slice A1_7 l1_7.length c1_7, .slice A1_8 l1_8.length c1_8, .slice A1_9 l1_9.length c1_9, .slice A1_10 l1_10.length c1_10, .slice A1_11 l1_11.length c1_11, .slice A1_12 l1_12.length c1_12, .int .i64 a1_13], .slice A2 l2.length c2] w fun e w' => ∃ v0_ : Value, e = .returned (v0_) ∧ Kd.R (Kd.int .i64) 3 w' w.heap.size (fun _ => True) v0_ r ∧ Below w.heap.size w w' := by
 have hu32 := Tryz.underlying32
 have hu40 := Tryz.underlying40
 have hu126 := Tryz.underlying126
 have hu114 := Tryz.underlying114
 have hu73 := Tryz.underlying73
 have hu83 := Tryz.underlying83
 have HR0_0 := Aside0.mk hr0_0
 have HC0_0 := Aside0.mk hc0_0
 clear hr0_0 hc0_0
 have HR0_1 := Aside0.mk hr0_1
 have HC0_1 := Aside0.mk hc0_1
 clear hr0_1 hc0_1
 have HR0_2 := Aside0.mk hr0_2
 have HC0_2 := Aside0.mk hc0_2
 clear hr0_2 hc0_2
 have HR1_7 := Aside0.mk hr1_7
 have HC1_7 := Aside0.mk hc1_7
 clear hr1_7 hc1_7
 have HR1_8 := Aside0.mk hr1_8
 have HC1_8 := Aside0.mk hc1_8
 clear hr1_8 hc1_8
 have HR1_9 := Aside0.mk hr1_9
 have HC1_9 := Aside0.mk hc1_9
 clear hr1_9 hc1_9
 have HR1_10 := Aside0.mk hr1_10
 have HC1_10 := Aside0.mk hc1_10
 clear hr1_10 hc1_10
 have HR1_11 := Aside0.mk hr1_11
 have HC1_11 := Aside0.mk hc1_11
 clear hr1_11 hc1_11
 have HR1_12 := Aside0.mk hr1_12
 have HC1_12 := Aside0.mk hc1_12
 clear hr1_12 hc1_12
 have HR2 := Aside0.mk hr2
 have HC2 := Aside0.mk hc2
 clear hr2 hc2
 have HB := Aside0.mk (Below.refl w.heap.size w)
 have H : ((measure_summed.f l0_0 l0_1 l0_2 l2).bind fun bt245 => ((measure_span.f l0_0 l0_1 l0_2 a1_0 a1_1 a1_2 a1_3 a1_4 a1_5 a1_6 l1_7 l1_8 l1_9 l1_10 l1_11 l1_12 a1_13 l2).bind fun bt253 => ((measure_ends.f l0_0 l0_1 l0_2 l2).bind fun bt257 => ((timetable_ZoneOf.f l0_0 l0_1 l0_2 bt257.2.1).bind fun bt277 => ((timetable_ZoneOf.f l0_0 l0_1 l0_2 bt257.2.2.2.2.2.2.2.2.2.2.2.1).bind fun bt284 => ((zone_BandMinutes.f k bt277.1 bt277.2.1 bt277.2.2.1 bt253.1 bt253.2 a1_5 a1_6).bind fun bt291 => ((zone_OffsetAt.f k bt277.1 bt277.2.1 bt277.2.2.1 bt253.1).bind fun bt293 => ((zone_OffsetAt.f k bt284.1 bt284.2.1 bt284.2.2.1 bt253.2).bind fun bt295 => ((calendar_SplitMinute.f (wrap64 (bt253.1 + bt293.1))).bind fun bt297 => ((calendar_SplitMinute.f (wrap64 (bt253.2 + bt295.1))).bind fun bt299 => (some (([bt245.1, bt245.2.1, (bt245.2.2.2.2.2.length : Int), bt245.2.2.1, wrap64 (bt253.2 - bt253.1), bt291.1, bt245.2.2.2.1, bt245.2.2.2.2.1, mx (wrap64 (bt293.1 - bt295.1)) (wrap64 (bt295.1 - bt293.1)), bt297.2, bt299.2] : List Int))))))))))))) = some r := h
 clear h
 replace H := Option.bind_eq_some_iff.mp H
 obtain ⟨⟨t245, t246, t247, t248, t249, t250⟩, A40, H⟩ := H
 replace H : ((measure_span.f l0_0 l0_1 l0_2 a1_0 a1_1 a1_2 a1_3 a1_4 a1_5 a1_6 l1_7 l1_8 l1_9 l1_10 l1_11 l1_12 a1_13 l2).bind fun bt253 => ((measure_ends.f l0_0 l0_1 l0_2 l2).bind fun bt257 => ((timetable_ZoneOf.f l0_0 l0_1 l0_2 bt257.2.1).bind fun bt277 => ((timetable_ZoneOf.f l0_0 l0_1 l0_2 bt257.2.2.2.2.2.2.2.2.2.2.2.1).bind fun bt284 => ((zone_BandMinutes.f k bt277.1 bt277.2.1 bt277.2.2.1 bt253.1 bt253.2 a1_5 a1_6).bind fun bt291 => ((zone_OffsetAt.f k bt277.1 bt277.2.1 bt277.2.2.1 bt253.1).bind fun bt293 => ((zone_OffsetAt.f k bt284.1 bt284.2.1 bt284.2.2.1 bt253.2).bind fun bt295 => ((calendar_SplitMinute.f (wrap64 (bt253.1 + bt293.1))).bind fun bt297 => ((calendar_SplitMinute.f (wrap64 (bt253.2 + bt295.1))).bind fun bt299 => (some (([t245, t246, (t250.length : Int), t247, wrap64 (bt253.2 - bt253.1), bt291.1, t248, t249, mx (wrap64 (bt293.1 - bt295.1)) (wrap64 (bt295.1 - bt293.1)), bt297.2, bt299.2] : List Int)))))))))))) = some r := H
 have A4 := Aside0.mk A40
 clear A40
 replace H := Option.bind_eq_some_iff.mp H
 obtain ⟨⟨t253, t254⟩, A50, H⟩ := H
 replace H : ((measure_ends.f l0_0 l0_1 l0_2 l2).bind fun bt257 => ((timetable_ZoneOf.f l0_0 l0_1 l0_2 bt257.2.1).bind fun bt277 => ((timetable_ZoneOf.f l0_0 l0_1 l0_2 bt257.2.2.2.2.2.2.2.2.2.2.2.1).bind fun bt284 => ((zone_BandMinutes.f k bt277.1 bt277.2.1 bt277.2.2.1 t253 t254 a1_5 a1_6).bind fun bt291 => ((zone_OffsetAt.f k bt277.1 bt277.2.1 bt277.2.2.1 t253).bind fun bt293 => ((zone_OffsetAt.f k bt284.1 bt284.2.1 bt284.2.2.1 t254).bind fun bt295 => ((calendar_SplitMinute.f (wrap64 (t253 + bt293.1))).bind fun bt297 => ((calendar_SplitMinute.f (wrap64 (t254 + bt295.1))).bind fun bt299 => (some (([t245, t246, (t250.length : Int), t247, wrap64 (t254 - t253), bt291.1, t248, t249, mx (wrap64 (bt293.1 - bt295.1)) (wrap64 (bt295.1 - bt293.1)), bt297.2, bt299.2] : List Int))))))))))) = some r := H
 have A5 := Aside0.mk A50
 clear A50
 replace H := Option.bind_eq_some_iff.mp H
 obtain ⟨⟨t257, t258, t259, t260, t261, t262, t263, t264, t265, t266, t267, t268, t269, t270, t271, t272, t273, t274⟩, A60, H⟩ := H
 replace H : ((timetable_ZoneOf.f l0_0 l0_1 l0_2 t258).bind fun bt277 => ((timetable_ZoneOf.f l0_0 l0_1 l0_2 t268).bind fun bt284 => ((zone_BandMinutes.f k bt277.1 bt277.2.1 bt277.2.2.1 t253 t254 a1_5 a1_6).bind fun bt291 => ((zone_OffsetAt.f k bt277.1 bt277.2.1 bt277.2.2.1 t253).bind fun bt293 => ((zone_OffsetAt.f k bt284.1 bt284.2.1 bt284.2.2.1 t254).bind fun bt295 => ((calendar_SplitMinute.f (wrap64 (t253 + bt293.1))).bind fun bt297 => ((calendar_SplitMinute.f (wrap64 (t254 + bt295.1))).bind fun bt299 => (some (([t245, t246, (t250.length : Int), t247, wrap64 (t254 - t253), bt291.1, t248, t249, mx (wrap64 (bt293.1 - bt295.1)) (wrap64 (bt295.1 - bt293.1)), bt297.2, bt299.2] : List Int)))))))))) = some r := H
 have A6 := Aside0.mk A60
 clear A60
 replace H := Option.bind_eq_some_iff.mp H
 obtain ⟨⟨t277, t278, t279, t282⟩, A70, H⟩ := H
 replace H : ((timetable_ZoneOf.f l0_0 l0_1 l0_2 t268).bind fun bt284 => ((zone_BandMinutes.f k t277 t278 t279 t253 t254 a1_5 a1_6).bind fun bt291 => ((zone_OffsetAt.f k t277 t278 t279 t253).bind fun bt293 => ((zone_OffsetAt.f k bt284.1 bt284.2.1 bt284.2.2.1 t254).bind fun bt295 => ((calendar_SplitMinute.f (wrap64 (t253 + bt293.1))).bind fun bt297 => ((calendar_SplitMinute.f (wrap64 (t254 + bt295.1))).bind fun bt299 => (some (([t245, t246, (t250.length : Int), t247, wrap64 (t254 - t253), bt291.1, t248, t249, mx (wrap64 (bt293.1 - bt295.1)) (wrap64 (bt295.1 - bt293.1)), bt297.2, bt299.2] : List Int))))))))) = some r := H
 have A7 := Aside0.mk A70
 clear A70
 replace H := Option.bind_eq_some_iff.mp H
 obtain ⟨⟨t284, t285, t286, t289⟩, A80, H⟩ := H
 replace H : ((zone_BandMinutes.f k t277 t278 t279 t253 t254 a1_5 a1_6).bind fun bt291 => ((zone_OffsetAt.f k t277 t278 t279 t253).bind fun bt293 => ((zone_OffsetAt.f k t284 t285 t286 t254).bind fun bt295 => ((calendar_SplitMinute.f (wrap64 (t253 + bt293.1))).bind fun bt297 => ((calendar_SplitMinute.f (wrap64 (t254 + bt295.1))).bind fun bt299 => (some (([t245, t246, (t250.length : Int), t247, wrap64 (t254 - t253), bt291.1, t248, t249, mx (wrap64 (bt293.1 - bt295.1)) (wrap64 (bt295.1 - bt293.1)), bt297.2, bt299.2] : List Int)))))))) = some r := H
 have A8 := Aside0.mk A80
 clear A80
 replace H := Option.bind_eq_some_iff.mp H
 obtain ⟨⟨t291, t292⟩, A90, H⟩ := H
 replace H : ((zone_OffsetAt.f k t277 t278 t279 t253).bind fun bt293 => ((zone_OffsetAt.f k t284 t285 t286 t254).bind fun bt295 => ((calendar_SplitMinute.f (wrap64 (t253 + bt293.1))).bind fun bt297 => ((calendar_SplitMinute.f (wrap64 (t254 + bt295.1))).bind fun bt299 => (some (([t245, t246, (t250.length : Int), t247, wrap64 (t254 - t253), t291, t248, t249, mx (wrap64 (bt293.1 - bt295.1)) (wrap64 (bt295.1 - bt293.1)), bt297.2, bt299.2] : List Int))))))) = some r := H
 have A9 := Aside0.mk A90
 clear A90
 replace H := Option.bind_eq_some_iff.mp H
 obtain ⟨⟨t293, t294⟩, A100, H⟩ := H
 replace H : ((zone_OffsetAt.f k t284 t285 t286 t254).bind fun bt295 => ((calendar_SplitMinute.f (wrap64 (t253 + t293))).bind fun bt297 => ((calendar_SplitMinute.f (wrap64 (t254 + bt295.1))).bind fun bt299 => (some (([t245, t246, (t250.length : Int), t247, wrap64 (t254 - t253), t291, t248, t249, mx (wrap64 (t293 - bt295.1)) (wrap64 (bt295.1 - t293)), bt297.2, bt299.2] : List Int)))))) = some r := H
 have A10 := Aside0.mk A100
 clear A100
 replace H := Option.bind_eq_some_iff.mp H
 obtain ⟨⟨t295, t296⟩, A110, H⟩ := H
 replace H : ((calendar_SplitMinute.f (wrap64 (t253 + t293))).bind fun bt297 => ((calendar_SplitMinute.f (wrap64 (t254 + t295))).bind fun bt299 => (some (([t245, t246, (t250.length : Int), t247, wrap64 (t254 - t253), t291, t248, t249, mx (wrap64 (t293 - t295)) (wrap64 (t295 - t293)), bt297.2, bt299.2] : List Int))))) = some r := H
 have A11 := Aside0.mk A110
 clear A110
 replace H := Option.bind_eq_some_iff.mp H
 obtain ⟨⟨t297, t298⟩, A120, H⟩ := H
 replace H : ((calendar_SplitMinute.f (wrap64 (t254 + t295))).bind fun bt299 => (some (([t245, t246, (t250.length : Int), t247, wrap64 (t254 - t253), t291, t248, t249, mx (wrap64 (t293 - t295)) (wrap64 (t295 - t293)), t298, bt299.2] : List Int)))) = some r := H
 have A12 := Aside0.mk A120
 clear A120
 replace H := Option.bind_eq_some_iff.mp H
 obtain ⟨⟨t299, t300⟩, A130, H⟩ := H
 replace H : (some (([t245, t246, (t250.length : Int), t247, wrap64 (t254 - t253), t291, t248, t249, mx (wrap64 (t293 - t295)) (wrap64 (t295 - t293)), t298, t300] : List Int))) = some r := H
 have A13 := Aside0.mk A130
 clear A130
 obtain ⟨ji14, hji14⟩ : ∃ j_ : Int, (mx (wrap64 (t293 - t295)) (wrap64 (t295 - t293))) = j_ := ⟨_, rfl⟩
 replace H : (some (([t245, t246, (t250.length : Int), t247, wrap64 (t254 - t253), t291, t248, t249, ji14, t298, t300] : List Int))) = some r := by first | (rw [hji14] at H; exact H) | (simp only [hji14] at H ⊢; exact H)
 (try rw [hji14] at A4)
 (try rw [hji14] at A5)
 (try rw [hji14] at A6)
 (try rw [hji14] at A7)
 (try rw [hji14] at A8)
 (try rw [hji14] at A9)
 (try rw [hji14] at A10)
 (try rw [hji14] at A11)
 (try rw [hji14] at A12)
 (try rw [hji14] at A13)
 have hji14_ : (if (wrap64 (t293 - t295)) < (wrap64 (t295 - t293)) then (wrap64 (t295 - t293)) else (wrap64 (t293 - t295))) = ji14 := hji14
 obtain ⟨y301, hy301⟩ : ∃ y_ : List Int, y_ = (([t245, t246, (t250.length : Int), t247, wrap64 (t254 - t253), t291, t248, t249, ji14, t298, t300] : List Int)) := ⟨_, rfl⟩
 replace H : (some y301) = some r := by first | (rw [hy301]; with_reducible exact H) | (have H2_ := (Option.bind_some _ _).symm.trans H; rw [hy301]; with_reducible exact H2_) | (have H2_ := (Option.bind_some _ _).symm.trans H; with_reducible exact H2_) | with_reducible exact H | (rw [hy301]; exact H) | exact H
 have Ny301 := Aside0.mk hy301
 clear hy301
 obtain rfl := Option.some.inj H
 go_enter Tryz.func49, Tryz.ntmps49
 try go_wp2_with (first | ((with_reducible refine gate_dst (N := 3) rfl ?_); refine box_event ?hg (N := 3) ?hd (cs := #[.slice A0_0 l0_0.length c0_0, .slice A0_1 l0_1.length c0_1, .slice A0_2 l0_2.length c0_2]) (t := 32) ?hr ?_; (case hd => rfl); (case hg => rfl); (case hr => first | (go_simp; done) | (go_simp; rfl)); intro gb243 hg w15 hbox hb; have BK243 := Aside0.mk hbox; have GE243 := Aside0.mk ((by rw [hg]; exact (below_size hbk) : w.heap.size ≤ gb243)); replace HB := Aside0.mk (below_step hbk hb); clear hb hbox hg) | ((with_reducible refine gate_dst (N := 4) rfl ?_); refine box_event ?hg (N := 4) ?hd (cs := #[.int .i64 a1_0, .int .i64 a1_1, .int .i64 a1_2, .int .i64 a1_3, .int .i64 a1_4, .int .i64 a1_5, .int .i64 a1_6, .slice A1_7 l1_7.length c1_7, .slice A1_8 l1_8.length c1_8, .slice A1_9 l1_9.length c1_9, .slice A1_10 l1_10.length c1_10, .slice A1_11 l1_11.length c1_11, .slice A1_12 l1_12.length c1_12, .int .i64 a1_13]) (t := 40) ?hr ?_; (case hd => rfl); (case hg => rfl); (case hr => first | (go_simp; done) | (go_simp; rfl)); intro gb244 hg w16 hbox hb; have BK244 := Aside0.mk hbox; have GE244 := Aside0.mk ((by rw [hg]; exact (below_size hbk) : w.heap.size ≤ gb244)); have NB243_244 := Aside0.mk ((by rw [hg]; exact Nat.ne_of_lt (blk_ltB BK243.out) : gb243 ≠ gb244)); have NB244_243 := Aside0.mk ((by rw [hg]; exact Nat.ne_of_gt (blk_ltB BK243.out) : gb244 ≠ gb243)); replace BK243 := Aside0.mk (blk_belowB BK243.out hb); replace HB := Aside0.mk (below_step hbk hb); clear hb hbox hg))
 replace BK243 := Aside0.mk (blk_drew BK243.out)
 replace BK244 := Aside0.mk (blk_drew BK244.out)
 replace HB := Aside0.mk (below_drew1 HB.out)
 have HSo0 := Aside0.mk (held_of2 BK243.out BK244.out (S := fun w' => w'.cell? ⟨gb243, 0, none⟩ = some (.slice A0_0 l0_0.length c0_0) ∧ w'.cell? ⟨gb243, 1, none⟩ = some (.slice A0_1 l0_1.length c0_1) ∧ w'.cell? ⟨gb243, 2, none⟩ = some (.slice A0_2 l0_2.length c0_2) ∧ w'.cell? ⟨gb244, 0, none⟩ = some (.int .i64 a1_0) ∧ w'.cell? ⟨gb244, 1, none⟩ = some (.int .i64 a1_1) ∧ w'.cell? ⟨gb244, 2, none⟩ = some (.int .i64 a1_2) ∧ w'.cell? ⟨gb244, 3, none⟩ = some (.int .i64 a1_3) ∧ w'.cell? ⟨gb244, 4, none⟩ = some (.int .i64 a1_4) ∧ w'.cell? ⟨gb244, 5, none⟩ = some (.int .i64 a1_5) ∧ w'.cell? ⟨gb244, 6, none⟩ = some (.int .i64 a1_6) ∧ w'.cell? ⟨gb244, 7, none⟩ = some (.slice A1_7 l1_7.length c1_7) ∧ w'.cell? ⟨gb244, 8, none⟩ = some (.slice A1_8 l1_8.length c1_8) ∧ w'.cell? ⟨gb244, 9, none⟩ = some (.slice A1_9 l1_9.length c1_9) ∧ w'.cell? ⟨gb244, 10, none⟩ = some (.slice A1_10 l1_10.length c1_10) ∧ w'.cell? ⟨gb244, 11, none⟩ = some (.slice A1_11 l1_11.length c1_11) ∧ w'.cell? ⟨gb244, 12, none⟩ = some (.slice A1_12 l1_12.length c1_12) ∧ w'.cell? ⟨gb244, 13, none⟩ = some (.int .i64 a1_13)) (fun X hBK243 hBK244 => ⟨(blk_cell hBK243 0).trans rfl, (blk_cell hBK243 1).trans rfl, (blk_cell hBK243 2).trans rfl, (blk_cell hBK244 0).trans rfl, (blk_cell hBK244 1).trans rfl, (blk_cell hBK244 2).trans rfl, (blk_cell hBK244 3).trans rfl, (blk_cell hBK244 4).trans rfl, (blk_cell hBK244 5).trans rfl, (blk_cell hBK244 6).trans rfl, (blk_cell hBK244 7).trans rfl, (blk_cell hBK244 8).trans rfl, (blk_cell hBK244 9).trans rfl, (blk_cell hBK244 10).trans rfl, (blk_cell hBK244 11).trans rfl, (blk_cell hBK244 12).trans rfl, (blk_cell hBK244 13).trans rfl⟩))
 refine start_ (n := 11) (S := fun w' => w'.cell? ⟨gb243, 0, none⟩ = some (.slice A0_0 l0_0.length c0_0) ∧ w'.cell? ⟨gb243, 1, none⟩ = some (.slice A0_1 l0_1.length c0_1) ∧ w'.cell? ⟨gb243, 2, none⟩ = some (.slice A0_2 l0_2.length c0_2) ∧ w'.cell? ⟨gb244, 0, none⟩ = some (.int .i64 a1_0) ∧ w'.cell? ⟨gb244, 1, none⟩ = some (.int .i64 a1_1) ∧ w'.cell? ⟨gb244, 2, none⟩ = some (.int .i64 a1_2) ∧ w'.cell? ⟨gb244, 3, none⟩ = some (.int .i64 a1_3) ∧ w'.cell? ⟨gb244, 4, none⟩ = some (.int .i64 a1_4) ∧ w'.cell? ⟨gb244, 5, none⟩ = some (.int .i64 a1_5) ∧ w'.cell? ⟨gb244, 6, none⟩ = some (.int .i64 a1_6) ∧ w'.cell? ⟨gb244, 7, none⟩ = some (.slice A1_7 l1_7.length c1_7) ∧ w'.cell? ⟨gb244, 8, none⟩ = some (.slice A1_8 l1_8.length c1_8) ∧ w'.cell? ⟨gb244, 9, none⟩ = some (.slice A1_9 l1_9.length c1_9) ∧ w'.cell? ⟨gb244, 10, none⟩ = some (.slice A1_10 l1_10.length c1_10) ∧ w'.cell? ⟨gb244, 11, none⟩ = some (.slice A1_11 l1_11.length c1_11) ∧ w'.cell? ⟨gb244, 12, none⟩ = some (.slice A1_12 l1_12.length c1_12) ∧ w'.cell? ⟨gb244, 13, none⟩ = some (.int .i64 a1_13)) (ds := []) #[false, false, false, false, false, false, false, false, false, false, false] (by kernel_rfl) rfl rfl (HSo0.out _ BK243.out BK244.out) (fun hHeld => ?_); refine with_tabW measure_dutyValues.tab1 measure_dutyValues.bits1 (fun HT_ HW_ => ?_)
 generalize w16.drew = w17 at BK243 BK244 HB hHeld ⊢
 refine pure_ (i := 1) (N := some 26) (v := ?_) (a' := ?_) #[false, true, false, false, false, false, false, false, false, false, false] rfl rfl (any_of HT_.out (by kernel_rfl)) (fun _ _ _ h => h) (Or.inl ⟨by rfl, ?_⟩) ?_ ?_
 rotate_left
 ·intro w'
  go_simp
  with_reducible rfl
 rotate_left
 ·simp only [Act.put, List.setIfInBounds_toArray, List.set_cons_zero, List.set_cons_succ, i64_w, i32_w]
  rfl
 refine pure_ (i := 5) (N := some 30) (v := ?_) (a' := ?_) #[false, true, false, false, false, true, false, false, false, false, false] rfl rfl (any_of HT_.out (by kernel_rfl)) (fun _ _ _ h => h) (Or.inl ⟨by rfl, ?_⟩) ?_ ?_
 rotate_left
 ·intro w'
  go_simp
  with_reducible rfl
 rotate_left
 ·simp only [Act.put, List.setIfInBounds_toArray, List.set_cons_zero, List.set_cons_succ, i64_w, i32_w]
  rfl
 refine take_ (i := 0) (N := some 25) (v := ?_) (a' := ?_) #[true, true, false, false, false, true, false, false, false, false, false] rfl rfl (take_ofW HT_.out HW_.out (by kernel_rfl)) (fun _ _ _ h => h) (Or.inl ⟨by rfl, ?_⟩) hHeld ?_ ?_
 rotate_left
 ·rintro w' ⟨s0, s1, s2, s3, s4, s5, s6, s7, s8, s9, s10, s11, s12, s13, s14, s15, s16⟩
  go_simp
  with_reducible rfl
 rotate_left
 ·simp only [Act.put, List.setIfInBounds_toArray, List.set_cons_zero, List.set_cons_succ, i64_w, i32_w]
  rfl
 refine take_ (i := 3) (N := some 28) (v := ?_) (a' := ?_) #[true, true, false, true, false, true, false, false, false, false, false] rfl rfl (take_ofW HT_.out HW_.out (by kernel_rfl)) (fun _ _ _ h => h) (Or.inl ⟨by rfl, ?_⟩) hHeld ?_ ?_
 rotate_left
 ·rintro w' ⟨s0, s1, s2, s3, s4, s5, s6, s7, s8, s9, s10, s11, s12, s13, s14, s15, s16⟩
  go_simp
  with_reducible rfl
 rotate_left
 ·simp only [Act.put, List.setIfInBounds_toArray, List.set_cons_zero, List.set_cons_succ, i64_w, i32_w]
  rfl
 refine take_ (i := 4) (N := some 29) (v := ?_) (a' := ?_) #[true, true, false, true, true, true, false, false, false, false, false] rfl rfl (take_ofW HT_.out HW_.out (by kernel_rfl)) (fun _ _ _ h => h) (Or.inl ⟨by rfl, ?_⟩) hHeld ?_ ?_
 rotate_left
 ·rintro w' ⟨s0, s1, s2, s3, s4, s5, s6, s7, s8, s9, s10, s11, s12, s13, s14, s15, s16⟩
  go_simp
  with_reducible rfl
 rotate_left
 ·simp only [Act.put, List.setIfInBounds_toArray, List.set_cons_zero, List.set_cons_succ, i64_w, i32_w]
  rfl
 refine join_ (σ := Value × Nat × Nat) 2 #[true, true, true, true, true, true, true, true, true, false, false] (fun s_ => [(27, .agg #[.int .i64 t245, .int .i64 t246, .int .i64 t247, .int .i64 t248, .int .i64 t249, s_.1]), (31, .agg #[.int .i64 t253, .int .i64 t254]), (7, .pointer (some ⟨s_.2.1, 0, none⟩)), (8, .pointer (some ⟨s_.2.2, 0, none⟩))]) (fun s_ w' => (Kd.R Kd.string 9 w' w.heap.size (fun _ => True) s_.1 t250) ∧ (w'.heap[gb243]? = some (.cells #[.slice A0_0 l0_0.length c0_0, .slice A0_1 l0_1.length c0_1, .slice A0_2 l0_2.length c0_2] 32 (0, 0))) ∧ (w'.heap[gb244]? = some (.cells #[.int .i64 a1_0, .int .i64 a1_1, .int .i64 a1_2, .int .i64 a1_3, .int .i64 a1_4, .int .i64 a1_5, .int .i64 a1_6, .slice A1_7 l1_7.length c1_7, .slice A1_8 l1_8.length c1_8, .slice A1_9 l1_9.length c1_9, .slice A1_10 l1_10.length c1_10, .slice A1_11 l1_11.length c1_11, .slice A1_12 l1_12.length c1_12, .int .i64 a1_13] 40 (0, 0))) ∧ (w'.heap[s_.2.1]? = some (.cells #[.int .i64 0, .int .i64 0, .int .i64 0, .int .i64 0, .int .i64 0, .slice none 0 0] 126 (0, 0))) ∧ (w'.heap[s_.2.2]? = some (.cells #[.int .i64 0, .int .i64 0] 114 (0, 0))) ∧ (w.heap.size ≤ s_.2.1) ∧ (w.heap.size ≤ s_.2.1) ∧ (gb243 ≠ s_.2.1) ∧ (s_.2.1 ≠ gb243) ∧ (gb244 ≠ s_.2.1) ∧ (s_.2.1 ≠ gb244) ∧ (s_.2.2 ≠ s_.2.1) ∧ (s_.2.1 ≠ s_.2.2) ∧ (w.heap.size ≤ s_.2.2) ∧ (w.heap.size ≤ s_.2.2) ∧ (gb243 ≠ s_.2.2) ∧ (s_.2.2 ≠ gb243) ∧ (gb244 ≠ s_.2.2) ∧ (s_.2.2 ≠ gb244) ∧ (Below w.heap.size w w')) ?_ ?_
 rotate_left
 ·intro hJ2_6_7_8
  refine join_ (σ := Value × Nat) 3 #[true, true, true, true, true, true, true, true, false, false, false] (fun s_ => [(27, .agg #[.int .i64 t245, .int .i64 t246, .int .i64 t247, .int .i64 t248, .int .i64 t249, s_.1]), (31, .agg #[.int .i64 t253, .int .i64 t254]), (7, .pointer (some ⟨s_.2, 0, none⟩))]) (fun s_ w' => (Kd.R Kd.string 9 w' w.heap.size (fun _ => True) s_.1 t250) ∧ (w'.heap[gb243]? = some (.cells #[.slice A0_0 l0_0.length c0_0, .slice A0_1 l0_1.length c0_1, .slice A0_2 l0_2.length c0_2] 32 (0, 0))) ∧ (w'.heap[gb244]? = some (.cells #[.int .i64 a1_0, .int .i64 a1_1, .int .i64 a1_2, .int .i64 a1_3, .int .i64 a1_4, .int .i64 a1_5, .int .i64 a1_6, .slice A1_7 l1_7.length c1_7, .slice A1_8 l1_8.length c1_8, .slice A1_9 l1_9.length c1_9, .slice A1_10 l1_10.length c1_10, .slice A1_11 l1_11.length c1_11, .slice A1_12 l1_12.length c1_12, .int .i64 a1_13] 40 (0, 0))) ∧ (w'.heap[s_.2]? = some (.cells #[.int .i64 0, .int .i64 0, .int .i64 0, .int .i64 0, .int .i64 0, .slice none 0 0] 126 (0, 0))) ∧ (w.heap.size ≤ s_.2) ∧ (w.heap.size ≤ s_.2) ∧ (gb243 ≠ s_.2) ∧ (s_.2 ≠ gb243) ∧ (gb244 ≠ s_.2) ∧ (s_.2 ≠ gb244) ∧ (Below w.heap.size w w')) ?_ ?_
  rotate_left
  ·intro hJ2_6_7
   refine join_ (σ := Value × Nat) 3 #[true, true, true, true, true, true, true, false, true, false, false] (fun s_ => [(27, .agg #[.int .i64 t245, .int .i64 t246, .int .i64 t247, .int .i64 t248, .int .i64 t249, s_.1]), (31, .agg #[.int .i64 t253, .int .i64 t254]), (8, .pointer (some ⟨s_.2, 0, none⟩))]) (fun s_ w' => (Kd.R Kd.string 9 w' w.heap.size (fun _ => True) s_.1 t250) ∧ (w'.heap[gb243]? = some (.cells #[.slice A0_0 l0_0.length c0_0, .slice A0_1 l0_1.length c0_1, .slice A0_2 l0_2.length c0_2] 32 (0, 0))) ∧ (w'.heap[gb244]? = some (.cells #[.int .i64 a1_0, .int .i64 a1_1, .int .i64 a1_2, .int .i64 a1_3, .int .i64 a1_4, .int .i64 a1_5, .int .i64 a1_6, .slice A1_7 l1_7.length c1_7, .slice A1_8 l1_8.length c1_8, .slice A1_9 l1_9.length c1_9, .slice A1_10 l1_10.length c1_10, .slice A1_11 l1_11.length c1_11, .slice A1_12 l1_12.length c1_12, .int .i64 a1_13] 40 (0, 0))) ∧ (w'.heap[s_.2]? = some (.cells #[.int .i64 0, .int .i64 0] 114 (0, 0))) ∧ (w.heap.size ≤ s_.2) ∧ (w.heap.size ≤ s_.2) ∧ (gb243 ≠ s_.2) ∧ (s_.2 ≠ gb243) ∧ (gb244 ≠ s_.2) ∧ (s_.2 ≠ gb244) ∧ (Below w.heap.size w w')) ?_ ?_
   rotate_left
   ·intro hJ2_6_8
    refine join_ (σ := Value × Nat × Nat) 3 #[true, true, true, true, true, true, false, true, true, false, false] (fun s_ => [(27, .agg #[.int .i64 t245, .int .i64 t246, .int .i64 t247, .int .i64 t248, .int .i64 t249, s_.1]), (7, .pointer (some ⟨s_.2.1, 0, none⟩)), (8, .pointer (some ⟨s_.2.2, 0, none⟩))]) (fun s_ w' => (Kd.R Kd.string 9 w' w.heap.size (fun _ => True) s_.1 t250) ∧ (w'.heap[gb243]? = some (.cells #[.slice A0_0 l0_0.length c0_0, .slice A0_1 l0_1.length c0_1, .slice A0_2 l0_2.length c0_2] 32 (0, 0))) ∧ (w'.heap[gb244]? = some (.cells #[.int .i64 a1_0, .int .i64 a1_1, .int .i64 a1_2, .int .i64 a1_3, .int .i64 a1_4, .int .i64 a1_5, .int .i64 a1_6, .slice A1_7 l1_7.length c1_7, .slice A1_8 l1_8.length c1_8, .slice A1_9 l1_9.length c1_9, .slice A1_10 l1_10.length c1_10, .slice A1_11 l1_11.length c1_11, .slice A1_12 l1_12.length c1_12, .int .i64 a1_13] 40 (0, 0))) ∧ (w'.heap[s_.2.1]? = some (.cells #[.int .i64 0, .int .i64 0, .int .i64 0, .int .i64 0, .int .i64 0, .slice none 0 0] 126 (0, 0))) ∧ (w'.heap[s_.2.2]? = some (.cells #[.int .i64 0, .int .i64 0] 114 (0, 0))) ∧ (w.heap.size ≤ s_.2.1) ∧ (w.heap.size ≤ s_.2.1) ∧ (gb243 ≠ s_.2.1) ∧ (s_.2.1 ≠ gb243) ∧ (gb244 ≠ s_.2.1) ∧ (s_.2.1 ≠ gb244) ∧ (s_.2.2 ≠ s_.2.1) ∧ (s_.2.1 ≠ s_.2.2) ∧ (w.heap.size ≤ s_.2.2) ∧ (w.heap.size ≤ s_.2.2) ∧ (gb243 ≠ s_.2.2) ∧ (s_.2.2 ≠ gb243) ∧ (gb244 ≠ s_.2.2) ∧ (s_.2.2 ≠ gb244) ∧ (Below w.heap.size w w')) ?_ ?_
    rotate_left
    ·intro hJ2_7_8
     refine join_ (σ := Value) 4 #[true, true, true, true, true, true, true, false, false, false, false] (fun s_ => [(27, .agg #[.int .i64 t245, .int .i64 t246, .int .i64 t247, .int .i64 t248, .int .i64 t249, s_]), (31, .agg #[.int .i64 t253, .int .i64 t254])]) (fun s_ w' => (Kd.R Kd.string 9 w' w.heap.size (fun _ => True) s_ t250) ∧ (w'.heap[gb243]? = some (.cells #[.slice A0_0 l0_0.length c0_0, .slice A0_1 l0_1.length c0_1, .slice A0_2 l0_2.length c0_2] 32 (0, 0))) ∧ (w'.heap[gb244]? = some (.cells #[.int .i64 a1_0, .int .i64 a1_1, .int .i64 a1_2, .int .i64 a1_3, .int .i64 a1_4, .int .i64 a1_5, .int .i64 a1_6, .slice A1_7 l1_7.length c1_7, .slice A1_8 l1_8.length c1_8, .slice A1_9 l1_9.length c1_9, .slice A1_10 l1_10.length c1_10, .slice A1_11 l1_11.length c1_11, .slice A1_12 l1_12.length c1_12, .int .i64 a1_13] 40 (0, 0))) ∧ (Below w.heap.size w w')) ?_ ?_
     rotate_left
     ·intro hJ2_6
      refine join_ (σ := Value × Nat) 4 #[true, true, true, true, true, true, false, true, false, false, false] (fun s_ => [(27, .agg #[.int .i64 t245, .int .i64 t246, .int .i64 t247, .int .i64 t248, .int .i64 t249, s_.1]), (7, .pointer (some ⟨s_.2, 0, none⟩))]) (fun s_ w' => (Kd.R Kd.string 9 w' w.heap.size (fun _ => True) s_.1 t250) ∧ (w'.heap[gb243]? = some (.cells #[.slice A0_0 l0_0.length c0_0, .slice A0_1 l0_1.length c0_1, .slice A0_2 l0_2.length c0_2] 32 (0, 0))) ∧ (w'.heap[gb244]? = some (.cells #[.int .i64 a1_0, .int .i64 a1_1, .int .i64 a1_2, .int .i64 a1_3, .int .i64 a1_4, .int .i64 a1_5, .int .i64 a1_6, .slice A1_7 l1_7.length c1_7, .slice A1_8 l1_8.length c1_8, .slice A1_9 l1_9.length c1_9, .slice A1_10 l1_10.length c1_10, .slice A1_11 l1_11.length c1_11, .slice A1_12 l1_12.length c1_12, .int .i64 a1_13] 40 (0, 0))) ∧ (w'.heap[s_.2]? = some (.cells #[.int .i64 0, .int .i64 0, .int .i64 0, .int .i64 0, .int .i64 0, .slice none 0 0] 126 (0, 0))) ∧ (w.heap.size ≤ s_.2) ∧ (w.heap.size ≤ s_.2) ∧ (gb243 ≠ s_.2) ∧ (s_.2 ≠ gb243) ∧ (gb244 ≠ s_.2) ∧ (s_.2 ≠ gb244) ∧ (Below w.heap.size w w')) ?_ ?_
      rotate_left
      ·intro hJ2_7
       refine join_ (σ := Value × Nat) 4 #[true, true, true, true, true, true, false, false, true, false, false] (fun s_ => [(27, .agg #[.int .i64 t245, .int .i64 t246, .int .i64 t247, .int .i64 t248, .int .i64 t249, s_.1]), (8, .pointer (some ⟨s_.2, 0, none⟩))]) (fun s_ w' => (Kd.R Kd.string 9 w' w.heap.size (fun _ => True) s_.1 t250) ∧ (w'.heap[gb243]? = some (.cells #[.slice A0_0 l0_0.length c0_0, .slice A0_1 l0_1.length c0_1, .slice A0_2 l0_2.length c0_2] 32 (0, 0))) ∧ (w'.heap[gb244]? = some (.cells #[.int .i64 a1_0, .int .i64 a1_1, .int .i64 a1_2, .int .i64 a1_3, .int .i64 a1_4, .int .i64 a1_5, .int .i64 a1_6, .slice A1_7 l1_7.length c1_7, .slice A1_8 l1_8.length c1_8, .slice A1_9 l1_9.length c1_9, .slice A1_10 l1_10.length c1_10, .slice A1_11 l1_11.length c1_11, .slice A1_12 l1_12.length c1_12, .int .i64 a1_13] 40 (0, 0))) ∧ (w'.heap[s_.2]? = some (.cells #[.int .i64 0, .int .i64 0] 114 (0, 0))) ∧ (w.heap.size ≤ s_.2) ∧ (w.heap.size ≤ s_.2) ∧ (gb243 ≠ s_.2) ∧ (s_.2 ≠ gb243) ∧ (gb244 ≠ s_.2) ∧ (s_.2 ≠ gb244) ∧ (Below w.heap.size w w')) ?_ ?_
       rotate_left
       ·intro hJ2_8
        refine join_ (σ := Nat × Nat) 4 #[true, true, false, true, true, true, false, true, true, false, false] (fun s_ => [(7, .pointer (some ⟨s_.1, 0, none⟩)), (8, .pointer (some ⟨s_.2, 0, none⟩))]) (fun s_ w' => (w'.heap[gb243]? = some (.cells #[.slice A0_0 l0_0.length c0_0, .slice A0_1 l0_1.length c0_1, .slice A0_2 l0_2.length c0_2] 32 (0, 0))) ∧ (w'.heap[gb244]? = some (.cells #[.int .i64 a1_0, .int .i64 a1_1, .int .i64 a1_2, .int .i64 a1_3, .int .i64 a1_4, .int .i64 a1_5, .int .i64 a1_6, .slice A1_7 l1_7.length c1_7, .slice A1_8 l1_8.length c1_8, .slice A1_9 l1_9.length c1_9, .slice A1_10 l1_10.length c1_10, .slice A1_11 l1_11.length c1_11, .slice A1_12 l1_12.length c1_12, .int .i64 a1_13] 40 (0, 0))) ∧ (w'.heap[s_.1]? = some (.cells #[.int .i64 0, .int .i64 0, .int .i64 0, .int .i64 0, .int .i64 0, .slice none 0 0] 126 (0, 0))) ∧ (w'.heap[s_.2]? = some (.cells #[.int .i64 0, .int .i64 0] 114 (0, 0))) ∧ (w.heap.size ≤ s_.1) ∧ (w.heap.size ≤ s_.1) ∧ (gb243 ≠ s_.1) ∧ (s_.1 ≠ gb243) ∧ (gb244 ≠ s_.1) ∧ (s_.1 ≠ gb244) ∧ (s_.2 ≠ s_.1) ∧ (s_.1 ≠ s_.2) ∧ (w.heap.size ≤ s_.2) ∧ (w.heap.size ≤ s_.2) ∧ (gb243 ≠ s_.2) ∧ (s_.2 ≠ gb243) ∧ (gb244 ≠ s_.2) ∧ (s_.2 ≠ gb244) ∧ (Below w.heap.size w w')) ?_ ?_
        rotate_left
        ·intro hJ7_8
         refine join_ (σ := Value) 5 #[true, true, true, true, true, true, false, false, false, false, false] (fun s_ => [(27, .agg #[.int .i64 t245, .int .i64 t246, .int .i64 t247, .int .i64 t248, .int .i64 t249, s_])]) (fun s_ w' => (Kd.R Kd.string 9 w' w.heap.size (fun _ => True) s_ t250) ∧ (w'.heap[gb243]? = some (.cells #[.slice A0_0 l0_0.length c0_0, .slice A0_1 l0_1.length c0_1, .slice A0_2 l0_2.length c0_2] 32 (0, 0))) ∧ (w'.heap[gb244]? = some (.cells #[.int .i64 a1_0, .int .i64 a1_1, .int .i64 a1_2, .int .i64 a1_3, .int .i64 a1_4, .int .i64 a1_5, .int .i64 a1_6, .slice A1_7 l1_7.length c1_7, .slice A1_8 l1_8.length c1_8, .slice A1_9 l1_9.length c1_9, .slice A1_10 l1_10.length c1_10, .slice A1_11 l1_11.length c1_11, .slice A1_12 l1_12.length c1_12, .int .i64 a1_13] 40 (0, 0))) ∧ (Below w.heap.size w w')) ?_ ?_
         rotate_left
         ·intro hJ2
          refine join_ (σ := Nat) 5 #[true, true, false, true, true, true, false, true, false, false, false] (fun s_ => [(7, .pointer (some ⟨s_, 0, none⟩))]) (fun s_ w' => (w'.heap[gb243]? = some (.cells #[.slice A0_0 l0_0.length c0_0, .slice A0_1 l0_1.length c0_1, .slice A0_2 l0_2.length c0_2] 32 (0, 0))) ∧ (w'.heap[gb244]? = some (.cells #[.int .i64 a1_0, .int .i64 a1_1, .int .i64 a1_2, .int .i64 a1_3, .int .i64 a1_4, .int .i64 a1_5, .int .i64 a1_6, .slice A1_7 l1_7.length c1_7, .slice A1_8 l1_8.length c1_8, .slice A1_9 l1_9.length c1_9, .slice A1_10 l1_10.length c1_10, .slice A1_11 l1_11.length c1_11, .slice A1_12 l1_12.length c1_12, .int .i64 a1_13] 40 (0, 0))) ∧ (w'.heap[s_]? = some (.cells #[.int .i64 0, .int .i64 0, .int .i64 0, .int .i64 0, .int .i64 0, .slice none 0 0] 126 (0, 0))) ∧ (w.heap.size ≤ s_) ∧ (w.heap.size ≤ s_) ∧ (gb243 ≠ s_) ∧ (s_ ≠ gb243) ∧ (gb244 ≠ s_) ∧ (s_ ≠ gb244) ∧ (Below w.heap.size w w')) ?_ ?_
          rotate_left
          ·intro hJ7
           refine join_ (σ := Nat) 5 #[true, true, false, true, true, true, false, false, true, false, false] (fun s_ => [(8, .pointer (some ⟨s_, 0, none⟩))]) (fun s_ w' => (w'.heap[gb243]? = some (.cells #[.slice A0_0 l0_0.length c0_0, .slice A0_1 l0_1.length c0_1, .slice A0_2 l0_2.length c0_2] 32 (0, 0))) ∧ (w'.heap[gb244]? = some (.cells #[.int .i64 a1_0, .int .i64 a1_1, .int .i64 a1_2, .int .i64 a1_3, .int .i64 a1_4, .int .i64 a1_5, .int .i64 a1_6, .slice A1_7 l1_7.length c1_7, .slice A1_8 l1_8.length c1_8, .slice A1_9 l1_9.length c1_9, .slice A1_10 l1_10.length c1_10, .slice A1_11 l1_11.length c1_11, .slice A1_12 l1_12.length c1_12, .int .i64 a1_13] 40 (0, 0))) ∧ (w'.heap[s_]? = some (.cells #[.int .i64 0, .int .i64 0] 114 (0, 0))) ∧ (w.heap.size ≤ s_) ∧ (w.heap.size ≤ s_) ∧ (gb243 ≠ s_) ∧ (s_ ≠ gb243) ∧ (gb244 ≠ s_) ∧ (s_ ≠ gb244) ∧ (Below w.heap.size w w')) ?_ ?_
           rotate_left
           ·intro hJ8
            refine three_ (i := 2) (j := 7) (k := 8) (Ni := some 27) (Nj := some 7) (Nk := some 8) #[true, true, true, true, true, true, false, false, false, false, false] #[true, true, false, true, true, true, false, true, false, false, false] #[true, true, false, true, true, true, false, false, true, false, false] rfl rfl rfl rfl rfl rfl (three_of HT_.out (by kernel_rfl)) (by decide) (by decide) (by decide) (fun K hK => ?_) (fun K hK => ?_) (fun K hK => ?_)
            ·skip
             refine goes_ Tryz.func67 (by kernel_rfl) rfl #[.agg #[.slice A0_0 l0_0.length c0_0, .slice A0_1 l0_1.length c0_1, .slice A0_2 l0_2.length c0_2], .slice A2 l2.length c2] (by rfl) rfl rfl hgl ?_
             with_reducible refine (measure_summed.calls _ _ l0_0 _ _ l0_1 _ _ l0_2 _ _ l2 t245 t246 t247 t248 t249 t250 _ ?side1 ?side2 ?side3 ?side4 ?side5 ?side6 ?side7 ?side8 A4.out).mono ?_
             (case side1 => exact Kd.C_below HR0_0.out hbk)
             (case side2 => exact HC0_0.out)
             (case side3 => exact Kd.C_below HR0_1.out hbk)
             (case side4 => exact HC0_1.out)
             (case side5 => exact Kd.C_below HR0_2.out hbk)
             (case side6 => exact HC0_2.out)
             (case side7 => exact Kd.C_below HR2.out hbk)
             (case side8 => exact HC2.out)
             rintro e w18 ⟨v251, rfl, ho0, hb⟩
             refine ⟨_, rfl, ?_⟩
             have HO252 := Aside0.mk (Kd.R_lower ho0 (below_size hbk))
             replace BK243 := Aside0.mk (blk_belowB BK243.out hb)
             replace BK244 := Aside0.mk (blk_belowB BK244.out hb)
             replace HB := Aside0.mk (below_step hbk hb)
             (try clear hb)
             (try clear hb2)
             (try clear hk)
             (try clear hi)
             (try clear ho0)
             refine hK.out _ _ (HSo0.out _ BK243.out BK244.out) (fun hHeld => ?_)
             clear hK K
             refine norm_ (a' := ?_) ?_ ?_
             rotate_left
             ·show Act.put _ (some 27) _ = _
              simp only [Act.put, List.setIfInBounds_toArray, List.set_cons_zero, List.set_cons_succ, i64_w, i32_w]
              rfl
             exact norm_ (by simp only [putAll, Act.put, List.setIfInBounds_toArray, List.set_cons_zero, List.set_cons_succ]; try rfl) (hJ2 (v251) _ ⟨hro, (bk BK243.out), (bk BK244.out), hbk⟩)
            ·skip
             refine box_step ?hg (N := 7) ?hd (cs := #[.int .i64 0, .int .i64 0, .int .i64 0, .int .i64 0, .int .i64 0, .slice none 0 0]) (t := 126) ?hr ?_; (case hd => rfl); (case hg => rfl); (case hr => first | (go_simp; done) | (go_simp; rfl))
             intro gb255 hg w18 hbox hb
             have BK255 := Aside0.mk hbox
             have GE255 := Aside0.mk ((by rw [hg]; exact (below_size hbk) : w.heap.size ≤ gb255))
             have NB243_255 := Aside0.mk ((by rw [hg]; exact Nat.ne_of_lt (blk_ltB BK243.out) : gb243 ≠ gb255))
             have NB255_243 := Aside0.mk ((by rw [hg]; exact Nat.ne_of_gt (blk_ltB BK243.out) : gb255 ≠ gb243))
             have NB244_255 := Aside0.mk ((by rw [hg]; exact Nat.ne_of_lt (blk_ltB BK244.out) : gb244 ≠ gb255))
             have NB255_244 := Aside0.mk ((by rw [hg]; exact Nat.ne_of_gt (blk_ltB BK244.out) : gb255 ≠ gb244))
             replace BK243 := Aside0.mk (blk_belowB BK243.out hb)
             replace BK244 := Aside0.mk (blk_belowB BK244.out hb)
             replace HB := Aside0.mk (below_step hbk hb)
             clear hb hbox hg
             refine hK.out _ _ (HSo0.out _ BK243.out BK244.out) (fun hHeld => ?_)
             clear hK K
             refine norm_ (a' := ?_) ?_ ?_
             rotate_left
             ·show Act.put _ (some 7) _ = _
              simp only [Act.put, List.setIfInBounds_toArray, List.set_cons_zero, List.set_cons_succ, i64_w, i32_w]
              rfl
             exact norm_ (by simp only [putAll, Act.put, List.setIfInBounds_toArray, List.set_cons_zero, List.set_cons_succ]; try rfl) (hJ7 (gb255) _ ⟨(bk BK243.out), (bk BK244.out), (bk BK255.out), GE255.out, GE255.out, NB243_255.out, NB255_243.out, NB244_255.out, NB255_244.out, hbk⟩)
            ·skip
             refine box_step ?hg (N := 8) ?hd (cs := #[.int .i64 0, .int .i64 0]) (t := 114) ?hr ?_; (case hd => rfl); (case hg => rfl); (case hr => first | (go_simp; done) | (go_simp; rfl))
             intro gb256 hg w18 hbox hb
             have BK256 := Aside0.mk hbox
             have GE256 := Aside0.mk ((by rw [hg]; exact (below_size hbk) : w.heap.size ≤ gb256))
             have NB243_256 := Aside0.mk ((by rw [hg]; exact Nat.ne_of_lt (blk_ltB BK243.out) : gb243 ≠ gb256))
             have NB256_243 := Aside0.mk ((by rw [hg]; exact Nat.ne_of_gt (blk_ltB BK243.out) : gb256 ≠ gb243))
             have NB244_256 := Aside0.mk ((by rw [hg]; exact Nat.ne_of_lt (blk_ltB BK244.out) : gb244 ≠ gb256))
             have NB256_244 := Aside0.mk ((by rw [hg]; exact Nat.ne_of_gt (blk_ltB BK244.out) : gb256 ≠ gb244))
             replace BK243 := Aside0.mk (blk_belowB BK243.out hb)
             replace BK244 := Aside0.mk (blk_belowB BK244.out hb)
             replace HB := Aside0.mk (below_step hbk hb)
             clear hb hbox hg
             refine hK.out _ _ (HSo0.out _ BK243.out BK244.out) (fun hHeld => ?_)
             clear hK K
             refine norm_ (a' := ?_) ?_ ?_
             rotate_left
             ·show Act.put _ (some 8) _ = _
              simp only [Act.put, List.setIfInBounds_toArray, List.set_cons_zero, List.set_cons_succ, i64_w, i32_w]
              rfl
             exact norm_ (by simp only [putAll, Act.put, List.setIfInBounds_toArray, List.set_cons_zero, List.set_cons_succ]; try rfl) (hJ8 (gb256) _ ⟨(bk BK243.out), (bk BK244.out), (bk BK256.out), GE256.out, GE256.out, NB243_256.out, NB256_243.out, NB244_256.out, NB256_244.out, hbk⟩)
           ·skip
            rintro gb256 w19 ⟨h0_, h1_, h2_, h3_, h4_, h5_, h6_, h7_, h8_, h9_⟩
            have BK256 := Aside0.mk h2_
            have GE256 := Aside0.mk h4_
            have NB243_256 := Aside0.mk h5_
            have NB256_243 := Aside0.mk h6_
            have NB244_256 := Aside0.mk h7_
            have NB256_244 := Aside0.mk h8_
            replace BK243 := Aside0.mk h0_
            replace BK244 := Aside0.mk h1_
            replace HB := Aside0.mk h9_
            clear h0_ h1_ h2_ h3_ h4_ h5_ h6_ h7_ h8_ h9_
            have hHeld := HSo0.out _ BK243.out BK244.out
            refine norm_ (a' := ?_) ?_ ?_
            rotate_left
            ·simp only [putAll, Act.put, List.setIfInBounds_toArray, List.set_cons_zero, List.set_cons_succ]
             rfl
            refine two_ (i := 2) (j := 7) (Ni := some 27) (Nj := some 7) #[true, true, true, true, true, true, false, false, true, false, false] #[true, true, false, true, true, true, false, true, true, false, false] rfl rfl rfl rfl (two_of HT_.out (by kernel_rfl)) (by decide) (by decide) (fun K hK => ?_) (fun K hK => ?_)
            ·skip
             refine goes_ Tryz.func67 (by kernel_rfl) rfl #[.agg #[.slice A0_0 l0_0.length c0_0, .slice A0_1 l0_1.length c0_1, .slice A0_2 l0_2.length c0_2], .slice A2 l2.length c2] (by rfl) rfl rfl hgl ?_
             with_reducible refine (measure_summed.calls _ _ l0_0 _ _ l0_1 _ _ l0_2 _ _ l2 t245 t246 t247 t248 t249 t250 _ ?side1 ?side2 ?side3 ?side4 ?side5 ?side6 ?side7 ?side8 A4.out).mono ?_
             (case side1 => exact Kd.C_below HR0_0.out hbk)
             (case side2 => exact HC0_0.out)
             (case side3 => exact Kd.C_below HR0_1.out hbk)
             (case side4 => exact HC0_1.out)
             (case side5 => exact Kd.C_below HR0_2.out hbk)
             (case side6 => exact HC0_2.out)
             (case side7 => exact Kd.C_below HR2.out hbk)
             (case side8 => exact HC2.out)
             rintro e w20 ⟨v251, rfl, ho0, hb⟩
             refine ⟨_, rfl, ?_⟩
             have HO252 := Aside0.mk (Kd.R_lower ho0 (below_size hbk))
             replace BK243 := Aside0.mk (blk_belowB BK243.out hb)
             replace BK244 := Aside0.mk (blk_belowB BK244.out hb)
             replace BK256 := Aside0.mk (blk_belowB BK256.out hb)
             replace HB := Aside0.mk (below_step hbk hb)
             (try clear hb)
             (try clear hb2)
             (try clear hk)
             (try clear hi)
             (try clear ho0)
             refine hK.out _ _ (HSo0.out _ BK243.out BK244.out) (fun hHeld => ?_)
             clear hK K
             refine norm_ (a' := ?_) ?_ ?_
             rotate_left
             ·show Act.put _ (some 27) _ = _
              simp only [Act.put, List.setIfInBounds_toArray, List.set_cons_zero, List.set_cons_succ, i64_w, i32_w]
              rfl
             exact norm_ (by simp only [putAll, Act.put, List.setIfInBounds_toArray, List.set_cons_zero, List.set_cons_succ]; try rfl) (hJ2_8 (v251, gb256) _ ⟨hro, (bk BK243.out), (bk BK244.out), (bk BK256.out), GE256.out, GE256.out, NB243_256.out, NB256_243.out, NB244_256.out, NB256_244.out, hbk⟩)
            ·skip
             refine box_step ?hg (N := 7) ?hd (cs := #[.int .i64 0, .int .i64 0, .int .i64 0, .int .i64 0, .int .i64 0, .slice none 0 0]) (t := 126) ?hr ?_; (case hd => rfl); (case hg => rfl); (case hr => first | (go_simp; done) | (go_simp; rfl))
             intro gb255 hg w20 hbox hb
             have BK255 := Aside0.mk hbox
             have GE255 := Aside0.mk ((by rw [hg]; exact (below_size hbk) : w.heap.size ≤ gb255))
             have NB243_255 := Aside0.mk ((by rw [hg]; exact Nat.ne_of_lt (blk_ltB BK243.out) : gb243 ≠ gb255))
             have NB255_243 := Aside0.mk ((by rw [hg]; exact Nat.ne_of_gt (blk_ltB BK243.out) : gb255 ≠ gb243))
             have NB244_255 := Aside0.mk ((by rw [hg]; exact Nat.ne_of_lt (blk_ltB BK244.out) : gb244 ≠ gb255))
             have NB255_244 := Aside0.mk ((by rw [hg]; exact Nat.ne_of_gt (blk_ltB BK244.out) : gb255 ≠ gb244))
             have NB256_255 := Aside0.mk ((by rw [hg]; exact Nat.ne_of_lt (blk_ltB BK256.out) : gb256 ≠ gb255))
             have NB255_256 := Aside0.mk ((by rw [hg]; exact Nat.ne_of_gt (blk_ltB BK256.out) : gb255 ≠ gb256))
             replace BK243 := Aside0.mk (blk_belowB BK243.out hb)
             replace BK244 := Aside0.mk (blk_belowB BK244.out hb)
             replace BK256 := Aside0.mk (blk_belowB BK256.out hb)
             replace HB := Aside0.mk (below_step hbk hb)
             clear hb hbox hg
             refine hK.out _ _ (HSo0.out _ BK243.out BK244.out) (fun hHeld => ?_)
             clear hK K
             refine norm_ (a' := ?_) ?_ ?_
             rotate_left
             ·show Act.put _ (some 7) _ = _
              simp only [Act.put, List.setIfInBounds_toArray, List.set_cons_zero, List.set_cons_succ, i64_w, i32_w]
              rfl
             exact norm_ (by simp only [putAll, Act.put, List.setIfInBounds_toArray, List.set_cons_zero, List.set_cons_succ]; try rfl) (hJ7_8 (gb255, gb256) _ ⟨(bk BK243.out), (bk BK244.out), (bk BK255.out), (bk BK256.out), GE255.out, GE255.out, NB243_255.out, NB255_243.out, NB244_255.out, NB255_244.out, NB256_255.out, NB255_256.out, GE256.out, GE256.out, NB243_256.out, NB256_243.out, NB244_256.out, NB256_244.out, hbk⟩)
          ·skip
           rintro gb255 w19 ⟨h0_, h1_, h2_, h3_, h4_, h5_, h6_, h7_, h8_, h9_⟩
           have BK255 := Aside0.mk h2_
           have GE255 := Aside0.mk h4_
           have NB243_255 := Aside0.mk h5_
           have NB255_243 := Aside0.mk h6_
           have NB244_255 := Aside0.mk h7_
           have NB255_244 := Aside0.mk h8_
           replace BK243 := Aside0.mk h0_
           replace BK244 := Aside0.mk h1_
           replace HB := Aside0.mk h9_
           clear h0_ h1_ h2_ h3_ h4_ h5_ h6_ h7_ h8_ h9_
           have hHeld := HSo0.out _ BK243.out BK244.out
           refine norm_ (a' := ?_) ?_ ?_
           rotate_left
           ·simp only [putAll, Act.put, List.setIfInBounds_toArray, List.set_cons_zero, List.set_cons_succ]
            rfl
           refine two_ (i := 2) (j := 8) (Ni := some 27) (Nj := some 8) #[true, true, true, true, true, true, false, true, false, false, false] #[true, true, false, true, true, true, false, true, true, false, false] rfl rfl rfl rfl (two_of HT_.out (by kernel_rfl)) (by decide) (by decide) (fun K hK => ?_) (fun K hK => ?_)
           ·skip
            refine goes_ Tryz.func67 (by kernel_rfl) rfl #[.agg #[.slice A0_0 l0_0.length c0_0, .slice A0_1 l0_1.length c0_1, .slice A0_2 l0_2.length c0_2], .slice A2 l2.length c2] (by rfl) rfl rfl hgl ?_
            with_reducible refine (measure_summed.calls _ _ l0_0 _ _ l0_1 _ _ l0_2 _ _ l2 t245 t246 t247 t248 t249 t250 _ ?side1 ?side2 ?side3 ?side4 ?side5 ?side6 ?side7 ?side8 A4.out).mono ?_
            (case side1 => exact Kd.C_below HR0_0.out hbk)
            (case side2 => exact HC0_0.out)
            (case side3 => exact Kd.C_below HR0_1.out hbk)
            (case side4 => exact HC0_1.out)
            (case side5 => exact Kd.C_below HR0_2.out hbk)
            (case side6 => exact HC0_2.out)
            (case side7 => exact Kd.C_below HR2.out hbk)
            (case side8 => exact HC2.out)
            rintro e w20 ⟨v251, rfl, ho0, hb⟩
            refine ⟨_, rfl, ?_⟩
            have HO252 := Aside0.mk (Kd.R_lower ho0 (below_size hbk))
            replace BK243 := Aside0.mk (blk_belowB BK243.out hb)
            replace BK244 := Aside0.mk (blk_belowB BK244.out hb)
            replace BK255 := Aside0.mk (blk_belowB BK255.out hb)
            replace HB := Aside0.mk (below_step hbk hb)
            (try clear hb)
            (try clear hb2)
            (try clear hk)
            (try clear hi)
            (try clear ho0)
            refine hK.out _ _ (HSo0.out _ BK243.out BK244.out) (fun hHeld => ?_)
            clear hK K
            refine norm_ (a' := ?_) ?_ ?_
            rotate_left
            ·show Act.put _ (some 27) _ = _
             simp only [Act.put, List.setIfInBounds_toArray, List.set_cons_zero, List.set_cons_succ, i64_w, i32_w]
             rfl
            exact norm_ (by simp only [putAll, Act.put, List.setIfInBounds_toArray, List.set_cons_zero, List.set_cons_succ]; try rfl) (hJ2_7 (v251, gb255) _ ⟨hro, (bk BK243.out), (bk BK244.out), (bk BK255.out), GE255.out, GE255.out, NB243_255.out, NB255_243.out, NB244_255.out, NB255_244.out, hbk⟩)
           ·skip
            refine box_step ?hg (N := 8) ?hd (cs := #[.int .i64 0, .int .i64 0]) (t := 114) ?hr ?_; (case hd => rfl); (case hg => rfl); (case hr => first | (go_simp; done) | (go_simp; rfl))
            intro gb256 hg w20 hbox hb
            have BK256 := Aside0.mk hbox
            have GE256 := Aside0.mk ((by rw [hg]; exact (below_size hbk) : w.heap.size ≤ gb256))
            have NB243_256 := Aside0.mk ((by rw [hg]; exact Nat.ne_of_lt (blk_ltB BK243.out) : gb243 ≠ gb256))
            have NB256_243 := Aside0.mk ((by rw [hg]; exact Nat.ne_of_gt (blk_ltB BK243.out) : gb256 ≠ gb243))
            have NB244_256 := Aside0.mk ((by rw [hg]; exact Nat.ne_of_lt (blk_ltB BK244.out) : gb244 ≠ gb256))
            have NB256_244 := Aside0.mk ((by rw [hg]; exact Nat.ne_of_gt (blk_ltB BK244.out) : gb256 ≠ gb244))
            have NB255_256 := Aside0.mk ((by rw [hg]; exact Nat.ne_of_lt (blk_ltB BK255.out) : gb255 ≠ gb256))
            have NB256_255 := Aside0.mk ((by rw [hg]; exact Nat.ne_of_gt (blk_ltB BK255.out) : gb256 ≠ gb255))
            replace BK243 := Aside0.mk (blk_belowB BK243.out hb)
            replace BK244 := Aside0.mk (blk_belowB BK244.out hb)
            replace BK255 := Aside0.mk (blk_belowB BK255.out hb)
            replace HB := Aside0.mk (below_step hbk hb)
            clear hb hbox hg
            refine hK.out _ _ (HSo0.out _ BK243.out BK244.out) (fun hHeld => ?_)
            clear hK K
            refine norm_ (a' := ?_) ?_ ?_
            rotate_left
            ·show Act.put _ (some 8) _ = _
             simp only [Act.put, List.setIfInBounds_toArray, List.set_cons_zero, List.set_cons_succ, i64_w, i32_w]
             rfl
            exact norm_ (by simp only [putAll, Act.put, List.setIfInBounds_toArray, List.set_cons_zero, List.set_cons_succ]; try rfl) (hJ7_8 (gb255, gb256) _ ⟨(bk BK243.out), (bk BK244.out), (bk BK255.out), (bk BK256.out), GE255.out, GE255.out, NB243_255.out, NB255_243.out, NB244_255.out, NB255_244.out, NB256_255.out, NB255_256.out, GE256.out, GE256.out, NB243_256.out, NB256_243.out, NB244_256.out, NB256_244.out, hbk⟩)
         ·skip
          rintro v251 w19 ⟨h0_, h1_, h2_, h3_⟩
          have HO252 := Aside0.mk h0_
          replace BK243 := Aside0.mk h1_
          replace BK244 := Aside0.mk h2_
          replace HB := Aside0.mk h3_
          clear h0_ h1_ h2_ h3_
          have hHeld := HSo0.out _ BK243.out BK244.out
          refine norm_ (a' := ?_) ?_ ?_
          rotate_left
          ·simp only [putAll, Act.put, List.setIfInBounds_toArray, List.set_cons_zero, List.set_cons_succ]
           rfl
          refine three_ (i := 6) (j := 7) (k := 8) (Ni := some 31) (Nj := some 7) (Nk := some 8) #[true, true, true, true, true, true, true, false, false, false, false] #[true, true, true, true, true, true, false, true, false, false, false] #[true, true, true, true, true, true, false, false, true, false, false] rfl rfl rfl rfl rfl rfl (three_of HT_.out (by kernel_rfl)) (by decide) (by decide) (by decide) (fun K hK => ?_) (fun K hK => ?_) (fun K hK => ?_)
          ·skip
           refine goes_ Tryz.func55 (by kernel_rfl) rfl #[.agg #[.slice A0_0 l0_0.length c0_0, .slice A0_1 l0_1.length c0_1, .slice A0_2 l0_2.length c0_2], .agg #[.int .i64 a1_0, .int .i64 a1_1, .int .i64 a1_2, .int .i64 a1_3, .int .i64 a1_4, .int .i64 a1_5, .int .i64 a1_6, .slice A1_7 l1_7.length c1_7, .slice A1_8 l1_8.length c1_8, .slice A1_9 l1_9.length c1_9, .slice A1_10 l1_10.length c1_10, .slice A1_11 l1_11.length c1_11, .slice A1_12 l1_12.length c1_12, .int .i64 a1_13], .slice A2 l2.length c2] (by rfl) rfl rfl hgl ?_
           with_reducible refine (measure_span.calls _ _ l0_0 _ _ l0_1 _ _ l0_2 a1_0 a1_1 a1_2 a1_3 a1_4 a1_5 a1_6 _ _ l1_7 _ _ l1_8 _ _ l1_9 _ _ l1_10 _ _ l1_11 _ _ l1_12 a1_13 _ _ l2 t253 t254 _ ?side1 ?side2 ?side3 ?side4 ?side5 ?side6 ?side7 ?side8 ?side9 ?side10 ?side11 ?side12 ?side13 ?side14 ?side15 ?side16 ?side17 ?side18 ?side19 ?side20 A5.out).mono ?_
           (case side1 => exact Kd.C_below HR0_0.out hbk)
           (case side2 => exact HC0_0.out)
           (case side3 => exact Kd.C_below HR0_1.out hbk)
           (case side4 => exact HC0_1.out)
           (case side5 => exact Kd.C_below HR0_2.out hbk)
           (case side6 => exact HC0_2.out)
           (case side7 => exact Kd.C_below HR1_7.out hbk)
           (case side8 => exact HC1_7.out)
           (case side9 => exact Kd.C_below HR1_8.out hbk)
           (case side10 => exact HC1_8.out)
           (case side11 => exact Kd.C_below HR1_9.out hbk)
           (case side12 => exact HC1_9.out)
           (case side13 => exact Kd.C_below HR1_10.out hbk)
           (case side14 => exact HC1_10.out)
           (case side15 => exact Kd.C_below HR1_11.out hbk)
           (case side16 => exact HC1_11.out)
           (case side17 => exact Kd.C_below HR1_12.out hbk)
           (case side18 => exact HC1_12.out)
           (case side19 => exact Kd.C_below HR2.out hbk)
           (case side20 => exact HC2.out)
           rintro e w20 ⟨rfl, hb⟩
           refine ⟨_, rfl, ?_⟩
           replace HO252 := Aside0.mk (R_belowB HO252.out hb)
           replace BK243 := Aside0.mk (blk_belowB BK243.out hb)
           replace BK244 := Aside0.mk (blk_belowB BK244.out hb)
           replace HB := Aside0.mk (below_step hbk hb)
           (try clear hb)
           (try clear hb2)
           (try clear hk)
           (try clear hi)
           refine hK.out _ _ (HSo0.out _ BK243.out BK244.out) (fun hHeld => ?_)
           clear hK K
           refine norm_ (a' := ?_) ?_ ?_
           rotate_left
           ·show Act.put _ (some 31) _ = _
            simp only [Act.put, List.setIfInBounds_toArray, List.set_cons_zero, List.set_cons_succ, i64_w, i32_w]
            rfl
           exact norm_ (by simp only [putAll, Act.put, List.setIfInBounds_toArray, List.set_cons_zero, List.set_cons_succ]; try rfl) (hJ2_6 (v251) _ ⟨hro, (bk BK243.out), (bk BK244.out), hbk⟩)
          ·skip
           refine box_step ?hg (N := 7) ?hd (cs := #[.int .i64 0, .int .i64 0, .int .i64 0, .int .i64 0, .int .i64 0, .slice none 0 0]) (t := 126) ?hr ?_; (case hd => rfl); (case hg => rfl); (case hr => first | (go_simp; done) | (go_simp; rfl))
           intro gb255 hg w20 hbox hb
           have BK255 := Aside0.mk hbox
           have GE255 := Aside0.mk ((by rw [hg]; exact (below_size hbk) : w.heap.size ≤ gb255))
           have NB243_255 := Aside0.mk ((by rw [hg]; exact Nat.ne_of_lt (blk_ltB BK243.out) : gb243 ≠ gb255))
           have NB255_243 := Aside0.mk ((by rw [hg]; exact Nat.ne_of_gt (blk_ltB BK243.out) : gb255 ≠ gb243))
           have NB244_255 := Aside0.mk ((by rw [hg]; exact Nat.ne_of_lt (blk_ltB BK244.out) : gb244 ≠ gb255))
           have NB255_244 := Aside0.mk ((by rw [hg]; exact Nat.ne_of_gt (blk_ltB BK244.out) : gb255 ≠ gb244))
           replace HO252 := Aside0.mk (R_belowB HO252.out hb)
           replace BK243 := Aside0.mk (blk_belowB BK243.out hb)
           replace BK244 := Aside0.mk (blk_belowB BK244.out hb)
           replace HB := Aside0.mk (below_step hbk hb)
           clear hb hbox hg
           refine hK.out _ _ (HSo0.out _ BK243.out BK244.out) (fun hHeld => ?_)
           clear hK K
           refine norm_ (a' := ?_) ?_ ?_
           rotate_left
           ·show Act.put _ (some 7) _ = _
            simp only [Act.put, List.setIfInBounds_toArray, List.set_cons_zero, List.set_cons_succ, i64_w, i32_w]
            rfl
           exact norm_ (by simp only [putAll, Act.put, List.setIfInBounds_toArray, List.set_cons_zero, List.set_cons_succ]; try rfl) (hJ2_7 (v251, gb255) _ ⟨hro, (bk BK243.out), (bk BK244.out), (bk BK255.out), GE255.out, GE255.out, NB243_255.out, NB255_243.out, NB244_255.out, NB255_244.out, hbk⟩)
          ·skip
           refine box_step ?hg (N := 8) ?hd (cs := #[.int .i64 0, .int .i64 0]) (t := 114) ?hr ?_; (case hd => rfl); (case hg => rfl); (case hr => first | (go_simp; done) | (go_simp; rfl))
           intro gb256 hg w20 hbox hb
           have BK256 := Aside0.mk hbox
           have GE256 := Aside0.mk ((by rw [hg]; exact (below_size hbk) : w.heap.size ≤ gb256))
           have NB243_256 := Aside0.mk ((by rw [hg]; exact Nat.ne_of_lt (blk_ltB BK243.out) : gb243 ≠ gb256))
           have NB256_243 := Aside0.mk ((by rw [hg]; exact Nat.ne_of_gt (blk_ltB BK243.out) : gb256 ≠ gb243))
           have NB244_256 := Aside0.mk ((by rw [hg]; exact Nat.ne_of_lt (blk_ltB BK244.out) : gb244 ≠ gb256))
           have NB256_244 := Aside0.mk ((by rw [hg]; exact Nat.ne_of_gt (blk_ltB BK244.out) : gb256 ≠ gb244))
           replace HO252 := Aside0.mk (R_belowB HO252.out hb)
           replace BK243 := Aside0.mk (blk_belowB BK243.out hb)
           replace BK244 := Aside0.mk (blk_belowB BK244.out hb)
           replace HB := Aside0.mk (below_step hbk hb)
           clear hb hbox hg
           refine hK.out _ _ (HSo0.out _ BK243.out BK244.out) (fun hHeld => ?_)
           clear hK K
           refine norm_ (a' := ?_) ?_ ?_
           rotate_left
           ·show Act.put _ (some 8) _ = _
            simp only [Act.put, List.setIfInBounds_toArray, List.set_cons_zero, List.set_cons_succ, i64_w, i32_w]
            rfl
           exact norm_ (by simp only [putAll, Act.put, List.setIfInBounds_toArray, List.set_cons_zero, List.set_cons_succ]; try rfl) (hJ2_8 (v251, gb256) _ ⟨hro, (bk BK243.out), (bk BK244.out), (bk BK256.out), GE256.out, GE256.out, NB243_256.out, NB256_243.out, NB244_256.out, NB256_244.out, hbk⟩)
        ·skip
         rintro ⟨gb255, gb256⟩ w20 ⟨h0_, h1_, h2_, h3_, h4_, h5_, h6_, h7_, h8_, h9_, h10_, h11_, h12_, h13_, h14_, h15_, h16_, h17_, h18_⟩
         have BK255 : Aside0 (w20.heap[gb255]? = some (.cells #[.int .i64 0, .int .i64 0, .int .i64 0, .int .i64 0, .int .i64 0, .slice none 0 0] 126 (0, 0))) := ⟨h2_⟩
         have BK256 : Aside0 (w20.heap[gb256]? = some (.cells #[.int .i64 0, .int .i64 0] 114 (0, 0))) := ⟨h3_⟩
         have GE255 : Aside0 (w.heap.size ≤ gb255) := ⟨h5_⟩
         have NB243_255 : Aside0 (gb243 ≠ gb255) := ⟨h6_⟩
         have NB255_243 : Aside0 (gb255 ≠ gb243) := ⟨h7_⟩
         have NB244_255 : Aside0 (gb244 ≠ gb255) := ⟨h8_⟩
         have NB255_244 : Aside0 (gb255 ≠ gb244) := ⟨h9_⟩
         have NB256_255 : Aside0 (gb256 ≠ gb255) := ⟨h10_⟩
         have NB255_256 : Aside0 (gb255 ≠ gb256) := ⟨h11_⟩
         have GE256 : Aside0 (w.heap.size ≤ gb256) := ⟨h13_⟩
         have NB243_256 : Aside0 (gb243 ≠ gb256) := ⟨h14_⟩
         have NB256_243 : Aside0 (gb256 ≠ gb243) := ⟨h15_⟩
         have NB244_256 : Aside0 (gb244 ≠ gb256) := ⟨h16_⟩
         have NB256_244 : Aside0 (gb256 ≠ gb244) := ⟨h17_⟩
         replace BK243 := Aside0.mk h0_
         replace BK244 := Aside0.mk h1_
         replace HB := Aside0.mk h18_
         clear h0_ h1_ h2_ h3_ h4_ h5_ h6_ h7_ h8_ h9_ h10_ h11_ h12_ h13_ h14_ h15_ h16_ h17_ h18_
         have hHeld := HSo0.out _ BK243.out BK244.out
         refine norm_ (a' := ?_) ?_ ?_
         rotate_left
         ·simp only [putAll, Act.put, List.setIfInBounds_toArray, List.set_cons_zero, List.set_cons_succ]
          rfl
         refine one_ (i := 2) (N := some 27) #[true, true, true, true, true, true, false, true, true, false, false] rfl rfl (one_of HT_.out (by kernel_rfl)) (by decide) (fun K hK => ?_)
         refine goes_ Tryz.func67 (by kernel_rfl) rfl #[.agg #[.slice A0_0 l0_0.length c0_0, .slice A0_1 l0_1.length c0_1, .slice A0_2 l0_2.length c0_2], .slice A2 l2.length c2] (by rfl) rfl rfl hgl ?_
         with_reducible refine (measure_summed.calls _ _ l0_0 _ _ l0_1 _ _ l0_2 _ _ l2 t245 t246 t247 t248 t249 t250 _ ?side1 ?side2 ?side3 ?side4 ?side5 ?side6 ?side7 ?side8 A4.out).mono ?_
         (case side1 => exact Kd.C_below HR0_0.out hbk)
         (case side2 => exact HC0_0.out)
         (case side3 => exact Kd.C_below HR0_1.out hbk)
         (case side4 => exact HC0_1.out)
         (case side5 => exact Kd.C_below HR0_2.out hbk)
         (case side6 => exact HC0_2.out)
         (case side7 => exact Kd.C_below HR2.out hbk)
         (case side8 => exact HC2.out)
         rintro e w21 ⟨v251, rfl, ho0, hb⟩
         refine ⟨_, rfl, ?_⟩
         have HO252 := Aside0.mk (Kd.R_lower ho0 (below_size hbk))
         replace BK243 := Aside0.mk (blk_belowB BK243.out hb)
         replace BK244 := Aside0.mk (blk_belowB BK244.out hb)
         replace BK255 := Aside0.mk (blk_belowB BK255.out hb)
         replace BK256 := Aside0.mk (blk_belowB BK256.out hb)
         replace HB := Aside0.mk (below_step hbk hb)
         (try clear hb)
         (try clear hb2)
         (try clear hk)
         (try clear hi)
         (try clear ho0)
         refine hK.out _ _ (HSo0.out _ BK243.out BK244.out) (fun hHeld => ?_)
         clear hK K
         refine norm_ (a' := ?_) ?_ ?_
         rotate_left
         ·show Act.put _ (some 27) _ = _
          simp only [Act.put, List.setIfInBounds_toArray, List.set_cons_zero, List.set_cons_succ, i64_w, i32_w]
          rfl
         exact norm_ (by simp only [putAll, Act.put, List.setIfInBounds_toArray, List.set_cons_zero, List.set_cons_succ]; try rfl) (hJ2_7_8 (v251, gb255, gb256) _ ⟨hro, (bk BK243.out), (bk BK244.out), (bk BK255.out), (bk BK256.out), GE255.out, GE255.out, NB243_255.out, NB255_243.out, NB244_255.out, NB255_244.out, NB256_255.out, NB255_256.out, GE256.out, GE256.out, NB243_256.out, NB256_243.out, NB244_256.out, NB256_244.out, hbk⟩)
       ·skip
        rintro ⟨v251, gb256⟩ w20 ⟨h0_, h1_, h2_, h3_, h4_, h5_, h6_, h7_, h8_, h9_, h10_⟩
        have HO252 : Aside0 (Kd.R Kd.string 9 w20 w.heap.size (fun _ => True) v251 t250) := ⟨h0_⟩
        have BK256 : Aside0 (w20.heap[gb256]? = some (.cells #[.int .i64 0, .int .i64 0] 114 (0, 0))) := ⟨h3_⟩
        have GE256 : Aside0 (w.heap.size ≤ gb256) := ⟨h5_⟩
        have NB243_256 : Aside0 (gb243 ≠ gb256) := ⟨h6_⟩
        have NB256_243 : Aside0 (gb256 ≠ gb243) := ⟨h7_⟩
        have NB244_256 : Aside0 (gb244 ≠ gb256) := ⟨h8_⟩
        have NB256_244 : Aside0 (gb256 ≠ gb244) := ⟨h9_⟩
        replace BK243 := Aside0.mk h1_
        replace BK244 := Aside0.mk h2_
        replace HB := Aside0.mk h10_
        clear h0_ h1_ h2_ h3_ h4_ h5_ h6_ h7_ h8_ h9_ h10_
        have hHeld := HSo0.out _ BK243.out BK244.out
        refine norm_ (a' := ?_) ?_ ?_
        rotate_left
        ·simp only [putAll, Act.put, List.setIfInBounds_toArray, List.set_cons_zero, List.set_cons_succ]
         rfl
        refine two_ (i := 6) (j := 7) (Ni := some 31) (Nj := some 7) #[true, true, true, true, true, true, true, false, true, false, false] #[true, true, true, true, true, true, false, true, true, false, false] rfl rfl rfl rfl (two_of HT_.out (by kernel_rfl)) (by decide) (by decide) (fun K hK => ?_) (fun K hK => ?_)
        ·skip
         refine goes_ Tryz.func55 (by kernel_rfl) rfl #[.agg #[.slice A0_0 l0_0.length c0_0, .slice A0_1 l0_1.length c0_1, .slice A0_2 l0_2.length c0_2], .agg #[.int .i64 a1_0, .int .i64 a1_1, .int .i64 a1_2, .int .i64 a1_3, .int .i64 a1_4, .int .i64 a1_5, .int .i64 a1_6, .slice A1_7 l1_7.length c1_7, .slice A1_8 l1_8.length c1_8, .slice A1_9 l1_9.length c1_9, .slice A1_10 l1_10.length c1_10, .slice A1_11 l1_11.length c1_11, .slice A1_12 l1_12.length c1_12, .int .i64 a1_13], .slice A2 l2.length c2] (by rfl) rfl rfl hgl ?_
         with_reducible refine (measure_span.calls _ _ l0_0 _ _ l0_1 _ _ l0_2 a1_0 a1_1 a1_2 a1_3 a1_4 a1_5 a1_6 _ _ l1_7 _ _ l1_8 _ _ l1_9 _ _ l1_10 _ _ l1_11 _ _ l1_12 a1_13 _ _ l2 t253 t254 _ ?side1 ?side2 ?side3 ?side4 ?side5 ?side6 ?side7 ?side8 ?side9 ?side10 ?side11 ?side12 ?side13 ?side14 ?side15 ?side16 ?side17 ?side18 ?side19 ?side20 A5.out).mono ?_
         (case side1 => exact Kd.C_below HR0_0.out hbk)
         (case side2 => exact HC0_0.out)
         (case side3 => exact Kd.C_below HR0_1.out hbk)
         (case side4 => exact HC0_1.out)
         (case side5 => exact Kd.C_below HR0_2.out hbk)
         (case side6 => exact HC0_2.out)
         (case side7 => exact Kd.C_below HR1_7.out hbk)
         (case side8 => exact HC1_7.out)
         (case side9 => exact Kd.C_below HR1_8.out hbk)
         (case side10 => exact HC1_8.out)
         (case side11 => exact Kd.C_below HR1_9.out hbk)
         (case side12 => exact HC1_9.out)
         (case side13 => exact Kd.C_below HR1_10.out hbk)
         (case side14 => exact HC1_10.out)
         (case side15 => exact Kd.C_below HR1_11.out hbk)
         (case side16 => exact HC1_11.out)
         (case side17 => exact Kd.C_below HR1_12.out hbk)
         (case side18 => exact HC1_12.out)
         (case side19 => exact Kd.C_below HR2.out hbk)
         (case side20 => exact HC2.out)
         rintro e w21 ⟨rfl, hb⟩
         refine ⟨_, rfl, ?_⟩
         replace HO252 := Aside0.mk (R_belowB HO252.out hb)
         replace BK243 := Aside0.mk (blk_belowB BK243.out hb)
         replace BK244 := Aside0.mk (blk_belowB BK244.out hb)
         replace BK256 := Aside0.mk (blk_belowB BK256.out hb)
         replace HB := Aside0.mk (below_step hbk hb)
         (try clear hb)
         (try clear hb2)
         (try clear hk)
         (try clear hi)
         refine hK.out _ _ (HSo0.out _ BK243.out BK244.out) (fun hHeld => ?_)
         clear hK K
         refine norm_ (a' := ?_) ?_ ?_
         rotate_left
         ·show Act.put _ (some 31) _ = _
          simp only [Act.put, List.setIfInBounds_toArray, List.set_cons_zero, List.set_cons_succ, i64_w, i32_w]
          rfl
         exact norm_ (by simp only [putAll, Act.put, List.setIfInBounds_toArray, List.set_cons_zero, List.set_cons_succ]; try rfl) (hJ2_6_8 (v251, gb256) _ ⟨hro, (bk BK243.out), (bk BK244.out), (bk BK256.out), GE256.out, GE256.out, NB243_256.out, NB256_243.out, NB244_256.out, NB256_244.out, hbk⟩)
        ·skip
         refine box_step ?hg (N := 7) ?hd (cs := #[.int .i64 0, .int .i64 0, .int .i64 0, .int .i64 0, .int .i64 0, .slice none 0 0]) (t := 126) ?hr ?_; (case hd => rfl); (case hg => rfl); (case hr => first | (go_simp; done) | (go_simp; rfl))
         intro gb255 hg w21 hbox hb
         have BK255 := Aside0.mk hbox
         have GE255 := Aside0.mk ((by rw [hg]; exact (below_size hbk) : w.heap.size ≤ gb255))
         have NB243_255 := Aside0.mk ((by rw [hg]; exact Nat.ne_of_lt (blk_ltB BK243.out) : gb243 ≠ gb255))
         have NB255_243 := Aside0.mk ((by rw [hg]; exact Nat.ne_of_gt (blk_ltB BK243.out) : gb255 ≠ gb243))
         have NB244_255 := Aside0.mk ((by rw [hg]; exact Nat.ne_of_lt (blk_ltB BK244.out) : gb244 ≠ gb255))
         have NB255_244 := Aside0.mk ((by rw [hg]; exact Nat.ne_of_gt (blk_ltB BK244.out) : gb255 ≠ gb244))
         have NB256_255 := Aside0.mk ((by rw [hg]; exact Nat.ne_of_lt (blk_ltB BK256.out) : gb256 ≠ gb255))
         have NB255_256 := Aside0.mk ((by rw [hg]; exact Nat.ne_of_gt (blk_ltB BK256.out) : gb255 ≠ gb256))
         replace HO252 := Aside0.mk (R_belowB HO252.out hb)
         replace BK243 := Aside0.mk (blk_belowB BK243.out hb)
         replace BK244 := Aside0.mk (blk_belowB BK244.out hb)
         replace BK256 := Aside0.mk (blk_belowB BK256.out hb)
         replace HB := Aside0.mk (below_step hbk hb)
         clear hb hbox hg
         refine hK.out _ _ (HSo0.out _ BK243.out BK244.out) (fun hHeld => ?_)
         clear hK K
         refine norm_ (a' := ?_) ?_ ?_
         rotate_left
         ·show Act.put _ (some 7) _ = _
          simp only [Act.put, List.setIfInBounds_toArray, List.set_cons_zero, List.set_cons_succ, i64_w, i32_w]
          rfl
         exact norm_ (by simp only [putAll, Act.put, List.setIfInBounds_toArray, List.set_cons_zero, List.set_cons_succ]; try rfl) (hJ2_7_8 (v251, gb255, gb256) _ ⟨hro, (bk BK243.out), (bk BK244.out), (bk BK255.out), (bk BK256.out), GE255.out, GE255.out, NB243_255.out, NB255_243.out, NB244_255.out, NB255_244.out, NB256_255.out, NB255_256.out, GE256.out, GE256.out, NB243_256.out, NB256_243.out, NB244_256.out, NB256_244.out, hbk⟩)
      ·skip
       rintro ⟨v251, gb255⟩ w20 ⟨h0_, h1_, h2_, h3_, h4_, h5_, h6_, h7_, h8_, h9_, h10_⟩
       have HO252 : Aside0 (Kd.R Kd.string 9 w20 w.heap.size (fun _ => True) v251 t250) := ⟨h0_⟩
       have BK255 : Aside0 (w20.heap[gb255]? = some (.cells #[.int .i64 0, .int .i64 0, .int .i64 0, .int .i64 0, .int .i64 0, .slice none 0 0] 126 (0, 0))) := ⟨h3_⟩
       have GE255 : Aside0 (w.heap.size ≤ gb255) := ⟨h5_⟩
       have NB243_255 : Aside0 (gb243 ≠ gb255) := ⟨h6_⟩
       have NB255_243 : Aside0 (gb255 ≠ gb243) := ⟨h7_⟩
       have NB244_255 : Aside0 (gb244 ≠ gb255) := ⟨h8_⟩
       have NB255_244 : Aside0 (gb255 ≠ gb244) := ⟨h9_⟩
       replace BK243 := Aside0.mk h1_
       replace BK244 := Aside0.mk h2_
       replace HB := Aside0.mk h10_
       clear h0_ h1_ h2_ h3_ h4_ h5_ h6_ h7_ h8_ h9_ h10_
       have hHeld := HSo0.out _ BK243.out BK244.out
       refine norm_ (a' := ?_) ?_ ?_
       rotate_left
       ·simp only [putAll, Act.put, List.setIfInBounds_toArray, List.set_cons_zero, List.set_cons_succ]
        rfl
       refine two_ (i := 6) (j := 8) (Ni := some 31) (Nj := some 8) #[true, true, true, true, true, true, true, true, false, false, false] #[true, true, true, true, true, true, false, true, true, false, false] rfl rfl rfl rfl (two_of HT_.out (by kernel_rfl)) (by decide) (by decide) (fun K hK => ?_) (fun K hK => ?_)
       ·skip
        refine goes_ Tryz.func55 (by kernel_rfl) rfl #[.agg #[.slice A0_0 l0_0.length c0_0, .slice A0_1 l0_1.length c0_1, .slice A0_2 l0_2.length c0_2], .agg #[.int .i64 a1_0, .int .i64 a1_1, .int .i64 a1_2, .int .i64 a1_3, .int .i64 a1_4, .int .i64 a1_5, .int .i64 a1_6, .slice A1_7 l1_7.length c1_7, .slice A1_8 l1_8.length c1_8, .slice A1_9 l1_9.length c1_9, .slice A1_10 l1_10.length c1_10, .slice A1_11 l1_11.length c1_11, .slice A1_12 l1_12.length c1_12, .int .i64 a1_13], .slice A2 l2.length c2] (by rfl) rfl rfl hgl ?_
        with_reducible refine (measure_span.calls _ _ l0_0 _ _ l0_1 _ _ l0_2 a1_0 a1_1 a1_2 a1_3 a1_4 a1_5 a1_6 _ _ l1_7 _ _ l1_8 _ _ l1_9 _ _ l1_10 _ _ l1_11 _ _ l1_12 a1_13 _ _ l2 t253 t254 _ ?side1 ?side2 ?side3 ?side4 ?side5 ?side6 ?side7 ?side8 ?side9 ?side10 ?side11 ?side12 ?side13 ?side14 ?side15 ?side16 ?side17 ?side18 ?side19 ?side20 A5.out).mono ?_
        (case side1 => exact Kd.C_below HR0_0.out hbk)
        (case side2 => exact HC0_0.out)
        (case side3 => exact Kd.C_below HR0_1.out hbk)
        (case side4 => exact HC0_1.out)
        (case side5 => exact Kd.C_below HR0_2.out hbk)
        (case side6 => exact HC0_2.out)
        (case side7 => exact Kd.C_below HR1_7.out hbk)
        (case side8 => exact HC1_7.out)
        (case side9 => exact Kd.C_below HR1_8.out hbk)
        (case side10 => exact HC1_8.out)
        (case side11 => exact Kd.C_below HR1_9.out hbk)
        (case side12 => exact HC1_9.out)
        (case side13 => exact Kd.C_below HR1_10.out hbk)
        (case side14 => exact HC1_10.out)
        (case side15 => exact Kd.C_below HR1_11.out hbk)
        (case side16 => exact HC1_11.out)
        (case side17 => exact Kd.C_below HR1_12.out hbk)
        (case side18 => exact HC1_12.out)
        (case side19 => exact Kd.C_below HR2.out hbk)
        (case side20 => exact HC2.out)
        rintro e w21 ⟨rfl, hb⟩
        refine ⟨_, rfl, ?_⟩
        replace HO252 := Aside0.mk (R_belowB HO252.out hb)
        replace BK243 := Aside0.mk (blk_belowB BK243.out hb)
        replace BK244 := Aside0.mk (blk_belowB BK244.out hb)
        replace BK255 := Aside0.mk (blk_belowB BK255.out hb)
        replace HB := Aside0.mk (below_step hbk hb)
        (try clear hb)
        (try clear hb2)
        (try clear hk)
        (try clear hi)
        refine hK.out _ _ (HSo0.out _ BK243.out BK244.out) (fun hHeld => ?_)
        clear hK K
        refine norm_ (a' := ?_) ?_ ?_
        rotate_left
        ·show Act.put _ (some 31) _ = _
         simp only [Act.put, List.setIfInBounds_toArray, List.set_cons_zero, List.set_cons_succ, i64_w, i32_w]
         rfl
        exact norm_ (by simp only [putAll, Act.put, List.setIfInBounds_toArray, List.set_cons_zero, List.set_cons_succ]; try rfl) (hJ2_6_7 (v251, gb255) _ ⟨hro, (bk BK243.out), (bk BK244.out), (bk BK255.out), GE255.out, GE255.out, NB243_255.out, NB255_243.out, NB244_255.out, NB255_244.out, hbk⟩)
       ·skip
        refine box_step ?hg (N := 8) ?hd (cs := #[.int .i64 0, .int .i64 0]) (t := 114) ?hr ?_; (case hd => rfl); (case hg => rfl); (case hr => first | (go_simp; done) | (go_simp; rfl))
        intro gb256 hg w21 hbox hb
        have BK256 := Aside0.mk hbox
        have GE256 := Aside0.mk ((by rw [hg]; exact (below_size hbk) : w.heap.size ≤ gb256))
        have NB243_256 := Aside0.mk ((by rw [hg]; exact Nat.ne_of_lt (blk_ltB BK243.out) : gb243 ≠ gb256))
        have NB256_243 := Aside0.mk ((by rw [hg]; exact Nat.ne_of_gt (blk_ltB BK243.out) : gb256 ≠ gb243))
        have NB244_256 := Aside0.mk ((by rw [hg]; exact Nat.ne_of_lt (blk_ltB BK244.out) : gb244 ≠ gb256))
        have NB256_244 := Aside0.mk ((by rw [hg]; exact Nat.ne_of_gt (blk_ltB BK244.out) : gb256 ≠ gb244))
        have NB255_256 := Aside0.mk ((by rw [hg]; exact Nat.ne_of_lt (blk_ltB BK255.out) : gb255 ≠ gb256))
        have NB256_255 := Aside0.mk ((by rw [hg]; exact Nat.ne_of_gt (blk_ltB BK255.out) : gb256 ≠ gb255))
        replace HO252 := Aside0.mk (R_belowB HO252.out hb)
        replace BK243 := Aside0.mk (blk_belowB BK243.out hb)
        replace BK244 := Aside0.mk (blk_belowB BK244.out hb)
        replace BK255 := Aside0.mk (blk_belowB BK255.out hb)
        replace HB := Aside0.mk (below_step hbk hb)
        clear hb hbox hg
        refine hK.out _ _ (HSo0.out _ BK243.out BK244.out) (fun hHeld => ?_)
        clear hK K
        refine norm_ (a' := ?_) ?_ ?_
        rotate_left
        ·show Act.put _ (some 8) _ = _
         simp only [Act.put, List.setIfInBounds_toArray, List.set_cons_zero, List.set_cons_succ, i64_w, i32_w]
         rfl
        exact norm_ (by simp only [putAll, Act.put, List.setIfInBounds_toArray, List.set_cons_zero, List.set_cons_succ]; try rfl) (hJ2_7_8 (v251, gb255, gb256) _ ⟨hro, (bk BK243.out), (bk BK244.out), (bk BK255.out), (bk BK256.out), GE255.out, GE255.out, NB243_255.out, NB255_243.out, NB244_255.out, NB255_244.out, NB256_255.out, NB255_256.out, GE256.out, GE256.out, NB243_256.out, NB256_243.out, NB244_256.out, NB256_244.out, hbk⟩)
     ·skip
      rintro v251 w20 ⟨h0_, h1_, h2_, h3_⟩
      have HO252 := Aside0.mk h0_
      replace BK243 := Aside0.mk h1_
      replace BK244 := Aside0.mk h2_
      replace HB := Aside0.mk h3_
      clear h0_ h1_ h2_ h3_
      have hHeld := HSo0.out _ BK243.out BK244.out
      refine norm_ (a' := ?_) ?_ ?_
      rotate_left
      ·simp only [putAll, Act.put, List.setIfInBounds_toArray, List.set_cons_zero, List.set_cons_succ]
       rfl
      refine two_ (i := 7) (j := 8) (Ni := some 7) (Nj := some 8) #[true, true, true, true, true, true, true, true, false, false, false] #[true, true, true, true, true, true, true, false, true, false, false] rfl rfl rfl rfl (two_of HT_.out (by kernel_rfl)) (by decide) (by decide) (fun K hK => ?_) (fun K hK => ?_)
      ·skip
       refine box_step ?hg (N := 7) ?hd (cs := #[.int .i64 0, .int .i64 0, .int .i64 0, .int .i64 0, .int .i64 0, .slice none 0 0]) (t := 126) ?hr ?_; (case hd => rfl); (case hg => rfl); (case hr => first | (go_simp; done) | (go_simp; rfl))
       intro gb255 hg w21 hbox hb
       have BK255 := Aside0.mk hbox
       have GE255 := Aside0.mk ((by rw [hg]; exact (below_size hbk) : w.heap.size ≤ gb255))
       have NB243_255 := Aside0.mk ((by rw [hg]; exact Nat.ne_of_lt (blk_ltB BK243.out) : gb243 ≠ gb255))
       have NB255_243 := Aside0.mk ((by rw [hg]; exact Nat.ne_of_gt (blk_ltB BK243.out) : gb255 ≠ gb243))
       have NB244_255 := Aside0.mk ((by rw [hg]; exact Nat.ne_of_lt (blk_ltB BK244.out) : gb244 ≠ gb255))
       have NB255_244 := Aside0.mk ((by rw [hg]; exact Nat.ne_of_gt (blk_ltB BK244.out) : gb255 ≠ gb244))
       replace HO252 := Aside0.mk (R_belowB HO252.out hb)
       replace BK243 := Aside0.mk (blk_belowB BK243.out hb)
       replace BK244 := Aside0.mk (blk_belowB BK244.out hb)
       replace HB := Aside0.mk (below_step hbk hb)
       clear hb hbox hg
       refine hK.out _ _ (HSo0.out _ BK243.out BK244.out) (fun hHeld => ?_)
       clear hK K
       refine norm_ (a' := ?_) ?_ ?_
       rotate_left
       ·show Act.put _ (some 7) _ = _
        simp only [Act.put, List.setIfInBounds_toArray, List.set_cons_zero, List.set_cons_succ, i64_w, i32_w]
        rfl
       exact norm_ (by simp only [putAll, Act.put, List.setIfInBounds_toArray, List.set_cons_zero, List.set_cons_succ]; try rfl) (hJ2_6_7 (v251, gb255) _ ⟨hro, (bk BK243.out), (bk BK244.out), (bk BK255.out), GE255.out, GE255.out, NB243_255.out, NB255_243.out, NB244_255.out, NB255_244.out, hbk⟩)
      ·skip
       refine box_step ?hg (N := 8) ?hd (cs := #[.int .i64 0, .int .i64 0]) (t := 114) ?hr ?_; (case hd => rfl); (case hg => rfl); (case hr => first | (go_simp; done) | (go_simp; rfl))
       intro gb256 hg w21 hbox hb
       have BK256 := Aside0.mk hbox
       have GE256 := Aside0.mk ((by rw [hg]; exact (below_size hbk) : w.heap.size ≤ gb256))
       have NB243_256 := Aside0.mk ((by rw [hg]; exact Nat.ne_of_lt (blk_ltB BK243.out) : gb243 ≠ gb256))
       have NB256_243 := Aside0.mk ((by rw [hg]; exact Nat.ne_of_gt (blk_ltB BK243.out) : gb256 ≠ gb243))
       have NB244_256 := Aside0.mk ((by rw [hg]; exact Nat.ne_of_lt (blk_ltB BK244.out) : gb244 ≠ gb256))
       have NB256_244 := Aside0.mk ((by rw [hg]; exact Nat.ne_of_gt (blk_ltB BK244.out) : gb256 ≠ gb244))
       replace HO252 := Aside0.mk (R_belowB HO252.out hb)
       replace BK243 := Aside0.mk (blk_belowB BK243.out hb)
       replace BK244 := Aside0.mk (blk_belowB BK244.out hb)
       replace HB := Aside0.mk (below_step hbk hb)
       clear hb hbox hg
       refine hK.out _ _ (HSo0.out _ BK243.out BK244.out) (fun hHeld => ?_)
       clear hK K
       refine norm_ (a' := ?_) ?_ ?_
       rotate_left
       ·show Act.put _ (some 8) _ = _
        simp only [Act.put, List.setIfInBounds_toArray, List.set_cons_zero, List.set_cons_succ, i64_w, i32_w]
        rfl
       exact norm_ (by simp only [putAll, Act.put, List.setIfInBounds_toArray, List.set_cons_zero, List.set_cons_succ]; try rfl) (hJ2_6_8 (v251, gb256) _ ⟨hro, (bk BK243.out), (bk BK244.out), (bk BK256.out), GE256.out, GE256.out, NB243_256.out, NB256_243.out, NB244_256.out, NB256_244.out, hbk⟩)
    ·skip
     rintro ⟨v251, gb255, gb256⟩ w21 ⟨h0_, h1_, h2_, h3_, h4_, h5_, h6_, h7_, h8_, h9_, h10_, h11_, h12_, h13_, h14_, h15_, h16_, h17_, h18_, h19_⟩
     have HO252 : Aside0 (Kd.R Kd.string 9 w21 w.heap.size (fun _ => True) v251 t250) := ⟨h0_⟩
     have BK255 : Aside0 (w21.heap[gb255]? = some (.cells #[.int .i64 0, .int .i64 0, .int .i64 0, .int .i64 0, .int .i64 0, .slice none 0 0] 126 (0, 0))) := ⟨h3_⟩
     have BK256 : Aside0 (w21.heap[gb256]? = some (.cells #[.int .i64 0, .int .i64 0] 114 (0, 0))) := ⟨h4_⟩
     have GE255 : Aside0 (w.heap.size ≤ gb255) := ⟨h6_⟩
     have NB243_255 : Aside0 (gb243 ≠ gb255) := ⟨h7_⟩
     have NB255_243 : Aside0 (gb255 ≠ gb243) := ⟨h8_⟩
     have NB244_255 : Aside0 (gb244 ≠ gb255) := ⟨h9_⟩
     have NB255_244 : Aside0 (gb255 ≠ gb244) := ⟨h10_⟩
     have NB256_255 : Aside0 (gb256 ≠ gb255) := ⟨h11_⟩
     have NB255_256 : Aside0 (gb255 ≠ gb256) := ⟨h12_⟩
     have GE256 : Aside0 (w.heap.size ≤ gb256) := ⟨h14_⟩
     have NB243_256 : Aside0 (gb243 ≠ gb256) := ⟨h15_⟩
     have NB256_243 : Aside0 (gb256 ≠ gb243) := ⟨h16_⟩
     have NB244_256 : Aside0 (gb244 ≠ gb256) := ⟨h17_⟩
     have NB256_244 : Aside0 (gb256 ≠ gb244) := ⟨h18_⟩
     replace BK243 := Aside0.mk h1_
     replace BK244 := Aside0.mk h2_
     replace HB := Aside0.mk h19_
     clear h0_ h1_ h2_ h3_ h4_ h5_ h6_ h7_ h8_ h9_ h10_ h11_ h12_ h13_ h14_ h15_ h16_ h17_ h18_ h19_
     have hHeld := HSo0.out _ BK243.out BK244.out
     refine norm_ (a' := ?_) ?_ ?_
     rotate_left
     ·simp only [putAll, Act.put, List.setIfInBounds_toArray, List.set_cons_zero, List.set_cons_succ]
      rfl
     refine one_ (i := 6) (N := some 31) #[true, true, true, true, true, true, true, true, true, false, false] rfl rfl (one_of HT_.out (by kernel_rfl)) (by decide) (fun K hK => ?_)
     refine goes_ Tryz.func55 (by kernel_rfl) rfl #[.agg #[.slice A0_0 l0_0.length c0_0, .slice A0_1 l0_1.length c0_1, .slice A0_2 l0_2.length c0_2], .agg #[.int .i64 a1_0, .int .i64 a1_1, .int .i64 a1_2, .int .i64 a1_3, .int .i64 a1_4, .int .i64 a1_5, .int .i64 a1_6, .slice A1_7 l1_7.length c1_7, .slice A1_8 l1_8.length c1_8, .slice A1_9 l1_9.length c1_9, .slice A1_10 l1_10.length c1_10, .slice A1_11 l1_11.length c1_11, .slice A1_12 l1_12.length c1_12, .int .i64 a1_13], .slice A2 l2.length c2] (by rfl) rfl rfl hgl ?_
     with_reducible refine (measure_span.calls _ _ l0_0 _ _ l0_1 _ _ l0_2 a1_0 a1_1 a1_2 a1_3 a1_4 a1_5 a1_6 _ _ l1_7 _ _ l1_8 _ _ l1_9 _ _ l1_10 _ _ l1_11 _ _ l1_12 a1_13 _ _ l2 t253 t254 _ ?side1 ?side2 ?side3 ?side4 ?side5 ?side6 ?side7 ?side8 ?side9 ?side10 ?side11 ?side12 ?side13 ?side14 ?side15 ?side16 ?side17 ?side18 ?side19 ?side20 A5.out).mono ?_
     (case side1 => exact Kd.C_below HR0_0.out hbk)
     (case side2 => exact HC0_0.out)
     (case side3 => exact Kd.C_below HR0_1.out hbk)
     (case side4 => exact HC0_1.out)
     (case side5 => exact Kd.C_below HR0_2.out hbk)
     (case side6 => exact HC0_2.out)
     (case side7 => exact Kd.C_below HR1_7.out hbk)
     (case side8 => exact HC1_7.out)
     (case side9 => exact Kd.C_below HR1_8.out hbk)
     (case side10 => exact HC1_8.out)
     (case side11 => exact Kd.C_below HR1_9.out hbk)
     (case side12 => exact HC1_9.out)
     (case side13 => exact Kd.C_below HR1_10.out hbk)
     (case side14 => exact HC1_10.out)
     (case side15 => exact Kd.C_below HR1_11.out hbk)
     (case side16 => exact HC1_11.out)
     (case side17 => exact Kd.C_below HR1_12.out hbk)
     (case side18 => exact HC1_12.out)
     (case side19 => exact Kd.C_below HR2.out hbk)
     (case side20 => exact HC2.out)
     rintro e w22 ⟨rfl, hb⟩
     refine ⟨_, rfl, ?_⟩
     replace HO252 := Aside0.mk (R_belowB HO252.out hb)
     replace BK243 := Aside0.mk (blk_belowB BK243.out hb)
     replace BK244 := Aside0.mk (blk_belowB BK244.out hb)
     replace BK255 := Aside0.mk (blk_belowB BK255.out hb)
     replace BK256 := Aside0.mk (blk_belowB BK256.out hb)
     replace HB := Aside0.mk (below_step hbk hb)
     (try clear hb)
     (try clear hb2)
     (try clear hk)
     (try clear hi)
     refine hK.out _ _ (HSo0.out _ BK243.out BK244.out) (fun hHeld => ?_)
     clear hK K
     refine norm_ (a' := ?_) ?_ ?_
     rotate_left
     ·show Act.put _ (some 31) _ = _
      simp only [Act.put, List.setIfInBounds_toArray, List.set_cons_zero, List.set_cons_succ, i64_w, i32_w]
      rfl
     exact norm_ (by simp only [putAll, Act.put, List.setIfInBounds_toArray, List.set_cons_zero, List.set_cons_succ]; try rfl) (hJ2_6_7_8 (v251, gb255, gb256) _ ⟨hro, (bk BK243.out), (bk BK244.out), (bk BK255.out), (bk BK256.out), GE255.out, GE255.out, NB243_255.out, NB255_243.out, NB244_255.out, NB255_244.out, NB256_255.out, NB255_256.out, GE256.out, GE256.out, NB243_256.out, NB256_243.out, NB244_256.out, NB256_244.out, hbk⟩)
   ·skip
    rintro ⟨v251, gb256⟩ w21 ⟨h0_, h1_, h2_, h3_, h4_, h5_, h6_, h7_, h8_, h9_, h10_⟩
    have HO252 : Aside0 (Kd.R Kd.string 9 w21 w.heap.size (fun _ => True) v251 t250) := ⟨h0_⟩
    have BK256 : Aside0 (w21.heap[gb256]? = some (.cells #[.int .i64 0, .int .i64 0] 114 (0, 0))) := ⟨h3_⟩
    have GE256 : Aside0 (w.heap.size ≤ gb256) := ⟨h5_⟩
    have NB243_256 : Aside0 (gb243 ≠ gb256) := ⟨h6_⟩
    have NB256_243 : Aside0 (gb256 ≠ gb243) := ⟨h7_⟩
    have NB244_256 : Aside0 (gb244 ≠ gb256) := ⟨h8_⟩
    have NB256_244 : Aside0 (gb256 ≠ gb244) := ⟨h9_⟩
    replace BK243 := Aside0.mk h1_
    replace BK244 := Aside0.mk h2_
    replace HB := Aside0.mk h10_
    clear h0_ h1_ h2_ h3_ h4_ h5_ h6_ h7_ h8_ h9_ h10_
    have hHeld := HSo0.out _ BK243.out BK244.out
    refine norm_ (a' := ?_) ?_ ?_
    rotate_left
    ·simp only [putAll, Act.put, List.setIfInBounds_toArray, List.set_cons_zero, List.set_cons_succ]
     rfl
    refine one_ (i := 7) (N := some 7) #[true, true, true, true, true, true, true, true, true, false, false] rfl rfl (one_of HT_.out (by kernel_rfl)) (by decide) (fun K hK => ?_)
    refine box_step ?hg (N := 7) ?hd (cs := #[.int .i64 0, .int .i64 0, .int .i64 0, .int .i64 0, .int .i64 0, .slice none 0 0]) (t := 126) ?hr ?_; (case hd => rfl); (case hg => rfl); (case hr => first | (go_simp; done) | (go_simp; rfl))
    intro gb255 hg w22 hbox hb
    have BK255 := Aside0.mk hbox
    have GE255 := Aside0.mk ((by rw [hg]; exact (below_size hbk) : w.heap.size ≤ gb255))
    have NB243_255 := Aside0.mk ((by rw [hg]; exact Nat.ne_of_lt (blk_ltB BK243.out) : gb243 ≠ gb255))
    have NB255_243 := Aside0.mk ((by rw [hg]; exact Nat.ne_of_gt (blk_ltB BK243.out) : gb255 ≠ gb243))
    have NB244_255 := Aside0.mk ((by rw [hg]; exact Nat.ne_of_lt (blk_ltB BK244.out) : gb244 ≠ gb255))
    have NB255_244 := Aside0.mk ((by rw [hg]; exact Nat.ne_of_gt (blk_ltB BK244.out) : gb255 ≠ gb244))
    have NB256_255 := Aside0.mk ((by rw [hg]; exact Nat.ne_of_lt (blk_ltB BK256.out) : gb256 ≠ gb255))
    have NB255_256 := Aside0.mk ((by rw [hg]; exact Nat.ne_of_gt (blk_ltB BK256.out) : gb255 ≠ gb256))
    replace HO252 := Aside0.mk (R_belowB HO252.out hb)
    replace BK243 := Aside0.mk (blk_belowB BK243.out hb)
    replace BK244 := Aside0.mk (blk_belowB BK244.out hb)
    replace BK256 := Aside0.mk (blk_belowB BK256.out hb)
    replace HB := Aside0.mk (below_step hbk hb)
    clear hb hbox hg
    refine hK.out _ _ (HSo0.out _ BK243.out BK244.out) (fun hHeld => ?_)
    clear hK K
    refine norm_ (a' := ?_) ?_ ?_
    rotate_left
    ·show Act.put _ (some 7) _ = _
     simp only [Act.put, List.setIfInBounds_toArray, List.set_cons_zero, List.set_cons_succ, i64_w, i32_w]
     rfl
    exact norm_ (by simp only [putAll, Act.put, List.setIfInBounds_toArray, List.set_cons_zero, List.set_cons_succ]; try rfl) (hJ2_6_7_8 (v251, gb255, gb256) _ ⟨hro, (bk BK243.out), (bk BK244.out), (bk BK255.out), (bk BK256.out), GE255.out, GE255.out, NB243_255.out, NB255_243.out, NB244_255.out, NB255_244.out, NB256_255.out, NB255_256.out, GE256.out, GE256.out, NB243_256.out, NB256_243.out, NB244_256.out, NB256_244.out, hbk⟩)
  ·skip
   rintro ⟨v251, gb255⟩ w21 ⟨h0_, h1_, h2_, h3_, h4_, h5_, h6_, h7_, h8_, h9_, h10_⟩
   have HO252 : Aside0 (Kd.R Kd.string 9 w21 w.heap.size (fun _ => True) v251 t250) := ⟨h0_⟩
   have BK255 : Aside0 (w21.heap[gb255]? = some (.cells #[.int .i64 0, .int .i64 0, .int .i64 0, .int .i64 0, .int .i64 0, .slice none 0 0] 126 (0, 0))) := ⟨h3_⟩
   have GE255 : Aside0 (w.heap.size ≤ gb255) := ⟨h5_⟩
   have NB243_255 : Aside0 (gb243 ≠ gb255) := ⟨h6_⟩
   have NB255_243 : Aside0 (gb255 ≠ gb243) := ⟨h7_⟩
   have NB244_255 : Aside0 (gb244 ≠ gb255) := ⟨h8_⟩
   have NB255_244 : Aside0 (gb255 ≠ gb244) := ⟨h9_⟩
   replace BK243 := Aside0.mk h1_
   replace BK244 := Aside0.mk h2_
   replace HB := Aside0.mk h10_
   clear h0_ h1_ h2_ h3_ h4_ h5_ h6_ h7_ h8_ h9_ h10_
   have hHeld := HSo0.out _ BK243.out BK244.out
   refine norm_ (a' := ?_) ?_ ?_
   rotate_left
   ·simp only [putAll, Act.put, List.setIfInBounds_toArray, List.set_cons_zero, List.set_cons_succ]
    rfl
   refine one_ (i := 8) (N := some 8) #[true, true, true, true, true, true, true, true, true, false, false] rfl rfl (one_of HT_.out (by kernel_rfl)) (by decide) (fun K hK => ?_)
   refine box_step ?hg (N := 8) ?hd (cs := #[.int .i64 0, .int .i64 0]) (t := 114) ?hr ?_; (case hd => rfl); (case hg => rfl); (case hr => first | (go_simp; done) | (go_simp; rfl))
   intro gb256 hg w22 hbox hb
   have BK256 := Aside0.mk hbox
   have GE256 := Aside0.mk ((by rw [hg]; exact (below_size hbk) : w.heap.size ≤ gb256))
   have NB243_256 := Aside0.mk ((by rw [hg]; exact Nat.ne_of_lt (blk_ltB BK243.out) : gb243 ≠ gb256))
   have NB256_243 := Aside0.mk ((by rw [hg]; exact Nat.ne_of_gt (blk_ltB BK243.out) : gb256 ≠ gb243))
   have NB244_256 := Aside0.mk ((by rw [hg]; exact Nat.ne_of_lt (blk_ltB BK244.out) : gb244 ≠ gb256))
   have NB256_244 := Aside0.mk ((by rw [hg]; exact Nat.ne_of_gt (blk_ltB BK244.out) : gb256 ≠ gb244))
   have NB255_256 := Aside0.mk ((by rw [hg]; exact Nat.ne_of_lt (blk_ltB BK255.out) : gb255 ≠ gb256))
   have NB256_255 := Aside0.mk ((by rw [hg]; exact Nat.ne_of_gt (blk_ltB BK255.out) : gb256 ≠ gb255))
   replace HO252 := Aside0.mk (R_belowB HO252.out hb)
   replace BK243 := Aside0.mk (blk_belowB BK243.out hb)
   replace BK244 := Aside0.mk (blk_belowB BK244.out hb)
   replace BK255 := Aside0.mk (blk_belowB BK255.out hb)
   replace HB := Aside0.mk (below_step hbk hb)
   clear hb hbox hg
   refine hK.out _ _ (HSo0.out _ BK243.out BK244.out) (fun hHeld => ?_)
   clear hK K
   refine norm_ (a' := ?_) ?_ ?_
   rotate_left
   ·show Act.put _ (some 8) _ = _
    simp only [Act.put, List.setIfInBounds_toArray, List.set_cons_zero, List.set_cons_succ, i64_w, i32_w]
    rfl
   exact norm_ (by simp only [putAll, Act.put, List.setIfInBounds_toArray, List.set_cons_zero, List.set_cons_succ]; try rfl) (hJ2_6_7_8 (v251, gb255, gb256) _ ⟨hro, (bk BK243.out), (bk BK244.out), (bk BK255.out), (bk BK256.out), GE255.out, GE255.out, NB243_255.out, NB255_243.out, NB244_255.out, NB255_244.out, NB256_255.out, NB255_256.out, GE256.out, GE256.out, NB243_256.out, NB256_243.out, NB244_256.out, NB256_244.out, hbk⟩)
 rintro ⟨v251, gb255, gb256⟩ w22 ⟨h0_, h1_, h2_, h3_, h4_, h5_, h6_, h7_, h8_, h9_, h10_, h11_, h12_, h13_, h14_, h15_, h16_, h17_, h18_, h19_⟩
 have HO252 : Aside0 (Kd.R Kd.string 9 w22 w.heap.size (fun _ => True) v251 t250) := ⟨h0_⟩
 have BK255 : Aside0 (w22.heap[gb255]? = some (.cells #[.int .i64 0, .int .i64 0, .int .i64 0, .int .i64 0, .int .i64 0, .slice none 0 0] 126 (0, 0))) := ⟨h3_⟩
 have BK256 : Aside0 (w22.heap[gb256]? = some (.cells #[.int .i64 0, .int .i64 0] 114 (0, 0))) := ⟨h4_⟩
 have GE255 : Aside0 (w.heap.size ≤ gb255) := ⟨h6_⟩
 have NB243_255 : Aside0 (gb243 ≠ gb255) := ⟨h7_⟩
 have NB255_243 : Aside0 (gb255 ≠ gb243) := ⟨h8_⟩
 have NB244_255 : Aside0 (gb244 ≠ gb255) := ⟨h9_⟩
 have NB255_244 : Aside0 (gb255 ≠ gb244) := ⟨h10_⟩
 have NB256_255 : Aside0 (gb256 ≠ gb255) := ⟨h11_⟩
 have NB255_256 : Aside0 (gb255 ≠ gb256) := ⟨h12_⟩
 have GE256 : Aside0 (w.heap.size ≤ gb256) := ⟨h14_⟩
 have NB243_256 : Aside0 (gb243 ≠ gb256) := ⟨h15_⟩
 have NB256_243 : Aside0 (gb256 ≠ gb243) := ⟨h16_⟩
 have NB244_256 : Aside0 (gb244 ≠ gb256) := ⟨h17_⟩
 have NB256_244 : Aside0 (gb256 ≠ gb244) := ⟨h18_⟩
 replace BK243 := Aside0.mk h1_
 replace BK244 := Aside0.mk h2_
 replace HB := Aside0.mk h19_
 clear h0_ h1_ h2_ h3_ h4_ h5_ h6_ h7_ h8_ h9_ h10_ h11_ h12_ h13_ h14_ h15_ h16_ h17_ h18_ h19_
 have hHeld := HSo0.out _ BK243.out BK244.out
 obtain ⟨Ao28, co28, eo28⟩ := Kd.R_slice HO252.out
 (first | subst eo28 | (injection eo28 with f1_ f2_ f3_; have f4_ := f1_.symm; have f5_ := f3_.symm; clear f1_ f2_ f3_; subst f4_; subst f5_))
 refine norm_ (a' := ?_) ?_ ?_
 rotate_left
 ·simp only [putAll, Act.put, List.setIfInBounds_toArray, List.set_cons_zero, List.set_cons_succ]
  rfl
 refine one_ (i := 9) (N := none) #[true, true, true, true, true, true, true, true, true, true, false] rfl rfl (one_of HT_.out (by kernel_rfl)) (by decide) (fun K hK => ?_)
 have hs23 : w22.cell? ⟨gb255, 0, none⟩ = some (.int .i64 0) := (blk_cell BK255.out 0).trans rfl
 have hfs23 := blk_frozen BK255.out 0
 have hns23_0 := NB243_255.out
 have hns23_1 := NB244_255.out
 have hns23_3 := NB256_255.out
 have hms23_0 := NB255_243.out
 have hms23_1 := NB255_244.out
 have hms23_3 := NB255_256.out
 have hs24 : w22.cell? ⟨gb255, 1, none⟩ = some (.int .i64 0) := (blk_cell BK255.out 1).trans rfl
 have hfs24 := blk_frozen BK255.out 1
 have hns24_0 := NB243_255.out
 have hns24_1 := NB244_255.out
 have hns24_3 := NB256_255.out
 have hms24_0 := NB255_243.out
 have hms24_1 := NB255_244.out
 have hms24_3 := NB255_256.out
 have hs25 : w22.cell? ⟨gb255, 2, none⟩ = some (.int .i64 0) := (blk_cell BK255.out 2).trans rfl
 have hfs25 := blk_frozen BK255.out 2
 have hns25_0 := NB243_255.out
 have hns25_1 := NB244_255.out
 have hns25_3 := NB256_255.out
 have hms25_0 := NB255_243.out
 have hms25_1 := NB255_244.out
 have hms25_3 := NB255_256.out
 have hs26 : w22.cell? ⟨gb255, 3, none⟩ = some (.int .i64 0) := (blk_cell BK255.out 3).trans rfl
 have hfs26 := blk_frozen BK255.out 3
 have hns26_0 := NB243_255.out
 have hns26_1 := NB244_255.out
 have hns26_3 := NB256_255.out
 have hms26_0 := NB255_243.out
 have hms26_1 := NB255_244.out
 have hms26_3 := NB255_256.out
 have hs27 : w22.cell? ⟨gb255, 4, none⟩ = some (.int .i64 0) := (blk_cell BK255.out 4).trans rfl
 have hfs27 := blk_frozen BK255.out 4
 have hns27_0 := NB243_255.out
 have hns27_1 := NB244_255.out
 have hns27_3 := NB256_255.out
 have hms27_0 := NB255_243.out
 have hms27_1 := NB255_244.out
 have hms27_3 := NB255_256.out
 have hs29 : w22.cell? ⟨gb255, 5, none⟩ = some (.slice none 0 0) := (blk_cell BK255.out 5).trans rfl
 have hfs29 := blk_frozen BK255.out 5
 have hns29_0 := NB243_255.out
 have hns29_1 := NB244_255.out
 have hns29_3 := NB256_255.out
 have hms29_0 := NB255_243.out
 have hms29_1 := NB255_244.out
 have hms29_3 := NB255_256.out
 refine skip_ (w1 := ?_) (by rfl) rfl ?_ ?_
 rotate_left
 ·go_simp
  rfl
 refine hK.out _ _ (HSo0.out _ hbb hbb) (fun hHeld => ?_)
 clear hK K
 refine one_ (i := 10) (N := none) #[true, true, true, true, true, true, true, true, true, true, true] rfl rfl (one_of HT_.out (by kernel_rfl)) (by decide) (fun K hK => ?_)
 have hs30 : w22.cell? ⟨gb256, 0, none⟩ = some (.int .i64 0) := (blk_cell BK256.out 0).trans rfl
 have hfs30 := blk_frozen BK256.out 0
 have hns30_0 := NB243_256.out
 have hns30_1 := NB244_256.out
 have hns30_2 := NB255_256.out
 have hms30_0 := NB256_243.out
 have hms30_1 := NB256_244.out
 have hms30_2 := NB256_255.out
 have hs31 : w22.cell? ⟨gb256, 1, none⟩ = some (.int .i64 0) := (blk_cell BK256.out 1).trans rfl
 have hfs31 := blk_frozen BK256.out 1
 have hns31_0 := NB243_256.out
 have hns31_1 := NB244_256.out
 have hns31_2 := NB255_256.out
 have hms31_0 := NB256_243.out
 have hms31_1 := NB256_244.out
 have hms31_2 := NB256_255.out
 refine skip_ (w1 := ?_) (by rfl) rfl ?_ ?_
 rotate_left
 ·go_simp
  rfl
 refine hK.out _ _ (HSo0.out _ hbb hbb) (fun hHeld => ?_)
 clear hK K
 refine done_ (done_of HT_.out (by kernel_rfl)) ?_
 have hnb32 := NB243_244.out
 have hnc32 := NB244_243.out
 have hnb33 := NB243_255.out
 have hnc33 := NB255_243.out
 have hnb34 := NB243_256.out
 have hnc34 := NB256_243.out
 obtain ⟨hcz35_0, hcz35_1, hcz35_2⟩ := blk_cs3 BK243.out
 obtain ⟨hfz35_0, hfz35_1, hfz35_2⟩ := blk_fs3 BK243.out
 try go_wp2_with (first | ((with_reducible refine gate_callee (f := 28) rfl ?_); refine goesL_ (some 35) rfl rfl Tryz.func28 (by kernel_rfl) rfl #[.agg #[.slice A0_0 l0_0.length c0_0, .slice A0_1 l0_1.length c0_1, .slice A0_2 l0_2.length c0_2], .slice A2 l2.length c2] rfl hgl ?_; (with_reducible refine (measure_ends.calls _ _ l0_0 _ _ l0_1 _ _ l0_2 _ _ l2 t257 t258 t259 t260 t261 t262 t263 t264 t265 t266 t267 t268 t269 t270 t271 t272 t273 t274 _ ?side1 ?side2 ?side3 ?side4 ?side5 ?side6 ?side7 ?side8 A6.out).mono ?_); (case side1 => exact Kd.C_below HR0_0.out hbk); (case side2 => exact HC0_0.out); (case side3 => exact Kd.C_below HR0_1.out hbk); (case side4 => exact HC0_1.out); (case side5 => exact Kd.C_below HR0_2.out hbk); (case side6 => exact HC0_2.out); (case side7 => exact Kd.C_below HR2.out hbk); (case side8 => exact HC2.out); rintro e w36 ⟨rfl, hb⟩; refine ⟨_, rfl, ?_⟩; replace HO252 := Aside0.mk (Kd.R_below (by (with_reducible repeat (first | apply Kd.R_alloc | apply Kd.R_drewN | apply Kd.R_drew)); exact (Kd.R_mono (Kd.R_mono (Kd.R_far (p := ⟨gb256, 1, none⟩) (Kd.R_far (p := ⟨gb256, 0, none⟩) (Kd.R_far (p := ⟨gb255, 5, none⟩) (Kd.R_far (p := ⟨gb255, 4, none⟩) (Kd.R_far (p := ⟨gb255, 3, none⟩) (Kd.R_far (p := ⟨gb255, 2, none⟩) (Kd.R_far (p := ⟨gb255, 1, none⟩) (Kd.R_far (p := ⟨gb255, 0, none⟩) (Kd.R_types (Kd.R_types HO252.out BK255.out (by decide)) BK256.out (by decide)) (fun _ hk => hk.1.2) (.int .i64 t245)) (fun _ hk => hk.1.2) (.int .i64 t246)) (fun _ hk => hk.1.2) (.int .i64 t247)) (fun _ hk => hk.1.2) (.int .i64 t248)) (fun _ hk => hk.1.2) (.int .i64 t249)) (fun _ hk => hk.1.2) (.slice Ao28 t250.length co28)) (fun _ hk => hk.2) (.int .i64 t253)) (fun _ hk => hk.2) (.int .i64 t254)) (fun _ h_ => h_.1)) (fun _ h_ => h_.1))) hb); replace BK243 := Aside0.mk (blk_belowB BK243.out hb); replace BK244 := Aside0.mk (blk_belowB BK244.out hb); replace BK255 := Aside0.mk (blk_below (g := gb255) (o := .cells #[.int .i64 t245, .int .i64 t246, .int .i64 t247, .int .i64 t248, .int .i64 t249, .slice Ao28 t250.length co28] 126 (0, 0)) (by (with_reducible repeat (first | refine blk_drewN ?_ _ | refine blk_drew ?_ | refine blk_alloc ?_ _)); refine blk_far ?_ NB255_256.out _; refine blk_far ?_ NB255_256.out _; refine blk_put (cs := #[.int .i64 t245, .int .i64 t246, .int .i64 t247, .int .i64 t248, .int .i64 t249, .slice none 0 0]) ?_ 5 _ rfl; refine blk_put (cs := #[.int .i64 t245, .int .i64 t246, .int .i64 t247, .int .i64 t248, .int .i64 0, .slice none 0 0]) ?_ 4 _ rfl; refine blk_put (cs := #[.int .i64 t245, .int .i64 t246, .int .i64 t247, .int .i64 0, .int .i64 0, .slice none 0 0]) ?_ 3 _ rfl; refine blk_put (cs := #[.int .i64 t245, .int .i64 t246, .int .i64 0, .int .i64 0, .int .i64 0, .slice none 0 0]) ?_ 2 _ rfl; refine blk_put (cs := #[.int .i64 t245, .int .i64 0, .int .i64 0, .int .i64 0, .int .i64 0, .slice none 0 0]) ?_ 1 _ rfl; refine blk_put (cs := #[.int .i64 0, .int .i64 0, .int .i64 0, .int .i64 0, .int .i64 0, .slice none 0 0]) ?_ 0 _ rfl; (with_reducible repeat (first | refine blk_drewN ?_ _ | refine blk_drew ?_ | refine blk_alloc ?_ _)); exact BK255.out) hb); replace BK256 := Aside0.mk (blk_below (g := gb256) (o := .cells #[.int .i64 t253, .int .i64 t254] 114 (0, 0)) (by (with_reducible repeat (first | refine blk_drewN ?_ _ | refine blk_drew ?_ | refine blk_alloc ?_ _)); refine blk_put (cs := #[.int .i64 t253, .int .i64 0]) ?_ 1 _ rfl; refine blk_put (cs := #[.int .i64 0, .int .i64 0]) ?_ 0 _ rfl; refine blk_far ?_ NB256_255.out _; refine blk_far ?_ NB256_255.out _; refine blk_far ?_ NB256_255.out _; refine blk_far ?_ NB256_255.out _; refine blk_far ?_ NB256_255.out _; refine blk_far ?_ NB256_255.out _; (with_reducible repeat (first | refine blk_drewN ?_ _ | refine blk_drew ?_ | refine blk_alloc ?_ _)); exact BK256.out) hb); replace HB := Aside0.mk (below_step hbk hb); (try clear hb); (try clear hb2); (try clear hk); (try clear hi)) | ((with_reducible refine gate_dst (N := 9) rfl ?_); refine box_event ?hg (N := 9) ?hd (cs := #[.string (⟨#[]⟩ : ByteArray), .string (⟨#[]⟩ : ByteArray), .string (⟨#[]⟩ : ByteArray), .int .i64 0, .int .i64 0, .string (⟨#[]⟩ : ByteArray), .int .i64 0, .int .i64 0, .int .i64 0]) (t := 73) ?hr ?_; (case hd => rfl); (case hg => rfl); (case hr => first | (go_simp; done) | (go_simp; rfl)); intro gb275 hg w37 hbox hb; have BK275 := Aside0.mk hbox; have GE275 := Aside0.mk ((by rw [hg]; exact (below_size hbk) : w.heap.size ≤ gb275)); have NB243_275 := Aside0.mk ((by rw [hg]; exact Nat.ne_of_lt (blk_ltB BK243.out) : gb243 ≠ gb275)); have NB275_243 := Aside0.mk ((by rw [hg]; exact Nat.ne_of_gt (blk_ltB BK243.out) : gb275 ≠ gb243)); have NB244_275 := Aside0.mk ((by rw [hg]; exact Nat.ne_of_lt (blk_ltB BK244.out) : gb244 ≠ gb275)); have NB275_244 := Aside0.mk ((by rw [hg]; exact Nat.ne_of_gt (blk_ltB BK244.out) : gb275 ≠ gb244)); have NB255_275 := Aside0.mk ((by rw [hg]; exact Nat.ne_of_lt (blk_ltB BK255.out) : gb255 ≠ gb275)); have NB275_255 := Aside0.mk ((by rw [hg]; exact Nat.ne_of_gt (blk_ltB BK255.out) : gb275 ≠ gb255)); have NB256_275 := Aside0.mk ((by rw [hg]; exact Nat.ne_of_lt (blk_ltB BK256.out) : gb256 ≠ gb275)); have NB275_256 := Aside0.mk ((by rw [hg]; exact Nat.ne_of_gt (blk_ltB BK256.out) : gb275 ≠ gb256)); replace HO252 := Aside0.mk (R_belowB HO252.out hb); replace BK243 := Aside0.mk (blk_belowB BK243.out hb); replace BK244 := Aside0.mk (blk_belowB BK244.out hb); replace BK255 := Aside0.mk (blk_belowB BK255.out hb); replace BK256 := Aside0.mk (blk_belowB BK256.out hb); replace HB := Aside0.mk (below_step hbk hb); clear hb hbox hg) | ((with_reducible refine gate_dst (N := 10) rfl ?_); refine box_event ?hg (N := 10) ?hd (cs := #[.string (⟨#[]⟩ : ByteArray), .string (⟨#[]⟩ : ByteArray), .string (⟨#[]⟩ : ByteArray), .int .i64 0, .int .i64 0, .string (⟨#[]⟩ : ByteArray), .int .i64 0, .int .i64 0, .int .i64 0]) (t := 73) ?hr ?_; (case hd => rfl); (case hg => rfl); (case hr => first | (go_simp; done) | (go_simp; rfl)); intro gb276 hg w38 hbox hb; have BK276 := Aside0.mk hbox; have GE276 := Aside0.mk ((by rw [hg]; exact (below_size hbk) : w.heap.size ≤ gb276)); have NB243_276 := Aside0.mk ((by rw [hg]; exact Nat.ne_of_lt (blk_ltB BK243.out) : gb243 ≠ gb276)); have NB276_243 := Aside0.mk ((by rw [hg]; exact Nat.ne_of_gt (blk_ltB BK243.out) : gb276 ≠ gb243)); have NB244_276 := Aside0.mk ((by rw [hg]; exact Nat.ne_of_lt (blk_ltB BK244.out) : gb244 ≠ gb276)); have NB276_244 := Aside0.mk ((by rw [hg]; exact Nat.ne_of_gt (blk_ltB BK244.out) : gb276 ≠ gb244)); have NB255_276 := Aside0.mk ((by rw [hg]; exact Nat.ne_of_lt (blk_ltB BK255.out) : gb255 ≠ gb276)); have NB276_255 := Aside0.mk ((by rw [hg]; exact Nat.ne_of_gt (blk_ltB BK255.out) : gb276 ≠ gb255)); have NB256_276 := Aside0.mk ((by rw [hg]; exact Nat.ne_of_lt (blk_ltB BK256.out) : gb256 ≠ gb276)); have NB276_256 := Aside0.mk ((by rw [hg]; exact Nat.ne_of_gt (blk_ltB BK256.out) : gb276 ≠ gb256)); have NB275_276 := Aside0.mk ((by rw [hg]; exact Nat.ne_of_lt (blk_ltB BK275.out) : gb275 ≠ gb276)); have NB276_275 := Aside0.mk ((by rw [hg]; exact Nat.ne_of_gt (blk_ltB BK275.out) : gb276 ≠ gb275)); replace HO252 := Aside0.mk (R_belowB HO252.out hb); replace BK243 := Aside0.mk (blk_belowB BK243.out hb); replace BK244 := Aside0.mk (blk_belowB BK244.out hb); replace BK255 := Aside0.mk (blk_belowB BK255.out hb); replace BK256 := Aside0.mk (blk_belowB BK256.out hb); replace BK275 := Aside0.mk (blk_belowB BK275.out hb); replace HB := Aside0.mk (below_step hbk hb); clear hb hbox hg; have hnb39 := NB275_243.out; have hnc39 := NB243_275.out; have hnb40 := NB275_244.out; have hnc40 := NB244_275.out; have hnb41 := NB275_255.out; have hnc41 := NB255_275.out; have hnb42 := NB275_256.out; have hnc42 := NB256_275.out; have hnb43 := NB275_276.out; have hnc43 := NB276_275.out; obtain ⟨hcz44_0, hcz44_1, hcz44_2, hcz44_3, hcz44_4, hcz44_5, hcz44_6, hcz44_7, hcz44_8⟩ := blk_cs9 BK275.out; obtain ⟨hfz44_0, hfz44_1, hfz44_2, hfz44_3, hfz44_4, hfz44_5, hfz44_6, hfz44_7, hfz44_8⟩ := blk_fs9 BK275.out; have hnb45 := NB276_243.out; have hnc45 := NB243_276.out; have hnb46 := NB276_244.out; have hnc46 := NB244_276.out; have hnb47 := NB276_255.out; have hnc47 := NB255_276.out; have hnb48 := NB276_256.out; have hnc48 := NB256_276.out; obtain ⟨hcz49_0, hcz49_1, hcz49_2, hcz49_3, hcz49_4, hcz49_5, hcz49_6, hcz49_7, hcz49_8⟩ := blk_cs9 BK276.out; obtain ⟨hfz49_0, hfz49_1, hfz49_2, hfz49_3, hfz49_4, hfz49_5, hfz49_6, hfz49_7, hfz49_8⟩ := blk_fs9 BK276.out; obtain ⟨hcz50_0, hcz50_1, hcz50_2⟩ := blk_cs3 BK243.out; obtain ⟨hfz50_0, hfz50_1, hfz50_2⟩ := blk_fs3 BK243.out) | ((with_reducible refine gate_callee (f := 68) rfl ?_); refine goesL_ (some 42) rfl rfl Tryz.func68 (by kernel_rfl) rfl #[.agg #[.slice A0_0 l0_0.length c0_0, .slice A0_1 l0_1.length c0_1, .slice A0_2 l0_2.length c0_2], .string t258] rfl hgl ?_; (with_reducible refine (timetable_ZoneOf.calls _ _ l0_0 _ _ l0_1 _ _ l0_2 t258 t277 t278 t279 t282 _ ?side1 ?side2 ?side3 ?side4 ?side5 ?side6 A7.out).mono ?_); (case side1 => exact Kd.C_below HR0_0.out hbk); (case side2 => exact HC0_0.out); (case side3 => exact Kd.C_below HR0_1.out hbk); (case side4 => exact HC0_1.out); (case side5 => exact Kd.C_below HR0_2.out hbk); (case side6 => exact HC0_2.out); rintro e w51 ⟨v280, rfl, ho0, hb⟩; refine ⟨_, rfl, ?_⟩; have n0_ := Aside0.mk (Kd.R_below (by (with_reducible repeat (first | apply Kd.R_alloc | apply Kd.R_drewN | apply Kd.R_drew)); exact (Kd.R_mono (Kd.R_mono (Kd.R_far (p := ⟨gb276, 8, none⟩) (Kd.R_far (p := ⟨gb276, 7, none⟩) (Kd.R_far (p := ⟨gb276, 6, none⟩) (Kd.R_far (p := ⟨gb276, 5, none⟩) (Kd.R_far (p := ⟨gb276, 4, none⟩) (Kd.R_far (p := ⟨gb276, 3, none⟩) (Kd.R_far (p := ⟨gb276, 2, none⟩) (Kd.R_far (p := ⟨gb276, 1, none⟩) (Kd.R_far (p := ⟨gb276, 0, none⟩) (Kd.R_far (p := ⟨gb275, 8, none⟩) (Kd.R_far (p := ⟨gb275, 7, none⟩) (Kd.R_far (p := ⟨gb275, 6, none⟩) (Kd.R_far (p := ⟨gb275, 5, none⟩) (Kd.R_far (p := ⟨gb275, 4, none⟩) (Kd.R_far (p := ⟨gb275, 3, none⟩) (Kd.R_far (p := ⟨gb275, 2, none⟩) (Kd.R_far (p := ⟨gb275, 1, none⟩) (Kd.R_far (p := ⟨gb275, 0, none⟩) (Kd.R_types (Kd.R_types HO252.out BK275.out (by decide)) BK276.out (by decide)) (fun _ hk => hk.1.2) (.string t257)) (fun _ hk => hk.1.2) (.string t258)) (fun _ hk => hk.1.2) (.string t259)) (fun _ hk => hk.1.2) (.int .i64 t260)) (fun _ hk => hk.1.2) (.int .i64 t261)) (fun _ hk => hk.1.2) (.string t262)) (fun _ hk => hk.1.2) (.int .i64 t263)) (fun _ hk => hk.1.2) (.int .i64 t264)) (fun _ hk => hk.1.2) (.int .i64 t265)) (fun _ hk => hk.2) (.string t266)) (fun _ hk => hk.2) (.string t267)) (fun _ hk => hk.2) (.string t268)) (fun _ hk => hk.2) (.int .i64 t269)) (fun _ hk => hk.2) (.int .i64 t270)) (fun _ hk => hk.2) (.string t271)) (fun _ hk => hk.2) (.int .i64 t272)) (fun _ hk => hk.2) (.int .i64 t273)) (fun _ hk => hk.2) (.int .i64 t274)) (fun _ h_ => h_.1)) (fun _ h_ => h_.1))) hb); have n1_ := Aside0.mk (Kd.R_lower ho0 (below_size hbk)); have n2_ := Aside0.mk (blk_belowB BK243.out hb); have n3_ := Aside0.mk (blk_belowB BK244.out hb); have n4_ := Aside0.mk (blk_belowB BK255.out hb); have n5_ := Aside0.mk (blk_belowB BK256.out hb); have n6_ := Aside0.mk (blk_below (g := gb275) (o := .cells #[.string t257, .string t258, .string t259, .int .i64 t260, .int .i64 t261, .string t262, .int .i64 t263, .int .i64 t264, .int .i64 t265] 73 (0, 0)) (by (with_reducible repeat (first | refine blk_drewN ?_ _ | refine blk_drew ?_ | refine blk_alloc ?_ _)); refine blk_far ?_ NB275_276.out _; refine blk_far ?_ NB275_276.out _; refine blk_far ?_ NB275_276.out _; refine blk_far ?_ NB275_276.out _; refine blk_far ?_ NB275_276.out _; refine blk_far ?_ NB275_276.out _; refine blk_far ?_ NB275_276.out _; refine blk_far ?_ NB275_276.out _; refine blk_far ?_ NB275_276.out _; refine blk_put (cs := #[.string t257, .string t258, .string t259, .int .i64 t260, .int .i64 t261, .string t262, .int .i64 t263, .int .i64 t264, .int .i64 0]) ?_ 8 _ rfl; refine blk_put (cs := #[.string t257, .string t258, .string t259, .int .i64 t260, .int .i64 t261, .string t262, .int .i64 t263, .int .i64 0, .int .i64 0]) ?_ 7 _ rfl; refine blk_put (cs := #[.string t257, .string t258, .string t259, .int .i64 t260, .int .i64 t261, .string t262, .int .i64 0, .int .i64 0, .int .i64 0]) ?_ 6 _ rfl; refine blk_put (cs := #[.string t257, .string t258, .string t259, .int .i64 t260, .int .i64 t261, .string (⟨#[]⟩ : ByteArray), .int .i64 0, .int .i64 0, .int .i64 0]) ?_ 5 _ rfl; refine blk_put (cs := #[.string t257, .string t258, .string t259, .int .i64 t260, .int .i64 0, .string (⟨#[]⟩ : ByteArray), .int .i64 0, .int .i64 0, .int .i64 0]) ?_ 4 _ rfl; refine blk_put (cs := #[.string t257, .string t258, .string t259, .int .i64 0, .int .i64 0, .string (⟨#[]⟩ : ByteArray), .int .i64 0, .int .i64 0, .int .i64 0]) ?_ 3 _ rfl; refine blk_put (cs := #[.string t257, .string t258, .string (⟨#[]⟩ : ByteArray), .int .i64 0, .int .i64 0, .string (⟨#[]⟩ : ByteArray), .int .i64 0, .int .i64 0, .int .i64 0]) ?_ 2 _ rfl; refine blk_put (cs := #[.string t257, .string (⟨#[]⟩ : ByteArray), .string (⟨#[]⟩ : ByteArray), .int .i64 0, .int .i64 0, .string (⟨#[]⟩ : ByteArray), .int .i64 0, .int .i64 0, .int .i64 0]) ?_ 1 _ rfl; refine blk_put (cs := #[.string (⟨#[]⟩ : ByteArray), .string (⟨#[]⟩ : ByteArray), .string (⟨#[]⟩ : ByteArray), .int .i64 0, .int .i64 0, .string (⟨#[]⟩ : ByteArray), .int .i64 0, .int .i64 0, .int .i64 0]) ?_ 0 _ rfl; (with_reducible repeat (first | refine blk_drewN ?_ _ | refine blk_drew ?_ | refine blk_alloc ?_ _)); exact BK275.out) hb); have n7_ := Aside0.mk (blk_below (g := gb276) (o := .cells #[.string t266, .string t267, .string t268, .int .i64 t269, .int .i64 t270, .string t271, .int .i64 t272, .int .i64 t273, .int .i64 t274] 73 (0, 0)) (by (with_reducible repeat (first | refine blk_drewN ?_ _ | refine blk_drew ?_ | refine blk_alloc ?_ _)); refine blk_put (cs := #[.string t266, .string t267, .string t268, .int .i64 t269, .int .i64 t270, .string t271, .int .i64 t272, .int .i64 t273, .int .i64 0]) ?_ 8 _ rfl; refine blk_put (cs := #[.string t266, .string t267, .string t268, .int .i64 t269, .int .i64 t270, .string t271, .int .i64 t272, .int .i64 0, .int .i64 0]) ?_ 7 _ rfl; refine blk_put (cs := #[.string t266, .string t267, .string t268, .int .i64 t269, .int .i64 t270, .string t271, .int .i64 0, .int .i64 0, .int .i64 0]) ?_ 6 _ rfl; refine blk_put (cs := #[.string t266, .string t267, .string t268, .int .i64 t269, .int .i64 t270, .string (⟨#[]⟩ : ByteArray), .int .i64 0, .int .i64 0, .int .i64 0]) ?_ 5 _ rfl; refine blk_put (cs := #[.string t266, .string t267, .string t268, .int .i64 t269, .int .i64 0, .string (⟨#[]⟩ : ByteArray), .int .i64 0, .int .i64 0, .int .i64 0]) ?_ 4 _ rfl; refine blk_put (cs := #[.string t266, .string t267, .string t268, .int .i64 0, .int .i64 0, .string (⟨#[]⟩ : ByteArray), .int .i64 0, .int .i64 0, .int .i64 0]) ?_ 3 _ rfl; refine blk_put (cs := #[.string t266, .string t267, .string (⟨#[]⟩ : ByteArray), .int .i64 0, .int .i64 0, .string (⟨#[]⟩ : ByteArray), .int .i64 0, .int .i64 0, .int .i64 0]) ?_ 2 _ rfl; refine blk_put (cs := #[.string t266, .string (⟨#[]⟩ : ByteArray), .string (⟨#[]⟩ : ByteArray), .int .i64 0, .int .i64 0, .string (⟨#[]⟩ : ByteArray), .int .i64 0, .int .i64 0, .int .i64 0]) ?_ 1 _ rfl; refine blk_put (cs := #[.string (⟨#[]⟩ : ByteArray), .string (⟨#[]⟩ : ByteArray), .string (⟨#[]⟩ : ByteArray), .int .i64 0, .int .i64 0, .string (⟨#[]⟩ : ByteArray), .int .i64 0, .int .i64 0, .int .i64 0]) ?_ 0 _ rfl; refine blk_far ?_ NB276_275.out _; refine blk_far ?_ NB276_275.out _; refine blk_far ?_ NB276_275.out _; refine blk_far ?_ NB276_275.out _; refine blk_far ?_ NB276_275.out _; refine blk_far ?_ NB276_275.out _; refine blk_far ?_ NB276_275.out _; refine blk_far ?_ NB276_275.out _; refine blk_far ?_ NB276_275.out _; (with_reducible repeat (first | refine blk_drewN ?_ _ | refine blk_drew ?_ | refine blk_alloc ?_ _)); exact BK276.out) hb); have n8_ := Aside0.mk (below_step hbk hb); clear HO252; clear BK243; clear BK244; clear BK255; clear BK256; clear BK275; clear BK276; clear HB; have HO252 := n0_; have HO281 := n1_; have BK243 := n2_; have BK244 := n3_; have BK255 := n4_; have BK256 := n5_; have BK275 := n6_; have BK276 := n7_; have HB := n8_; clear n0_ n1_ n2_ n3_ n4_ n5_ n6_ n7_ n8_; (try clear hb); (try clear hb2); (try clear hk); (try clear hi); (try clear ho0)) | ((with_reducible refine gate_dst (N := 11) rfl ?_); refine box_event ?hg (N := 11) ?hd (cs := #[.string (⟨#[]⟩ : ByteArray), .int .i64 0, .slice none 0 0]) (t := 83) ?hr ?_; (case hd => rfl); (case hg => rfl); (case hr => first | (go_simp; done) | (go_simp; rfl)); intro gb283 hg w52 hbox hb; have n0_ := Aside0.mk (R_belowB HO252.out hb); have n1_ := Aside0.mk (R_belowB HO281.out hb); have n2_ := Aside0.mk (blk_belowB BK243.out hb); have n3_ := Aside0.mk (blk_belowB BK244.out hb); have n4_ := Aside0.mk (blk_belowB BK255.out hb); have n5_ := Aside0.mk (blk_belowB BK256.out hb); have n6_ := Aside0.mk (blk_belowB BK275.out hb); have n7_ := Aside0.mk (blk_belowB BK276.out hb); have n8_ := Aside0.mk (below_step hbk hb); have n9_ := Aside0.mk hbox; have n10_ := Aside0.mk ((by rw [hg]; exact (below_size hbk) : w.heap.size ≤ gb283)); have n11_ := Aside0.mk ((by rw [hg]; exact (below_size hbk) : w.heap.size ≤ gb283)); have n12_ := Aside0.mk ((by rw [hg]; exact Nat.ne_of_lt (blk_ltB BK243.out) : gb243 ≠ gb283)); have n13_ := Aside0.mk ((by rw [hg]; exact Nat.ne_of_gt (blk_ltB BK243.out) : gb283 ≠ gb243)); have n14_ := Aside0.mk ((by rw [hg]; exact Nat.ne_of_lt (blk_ltB BK244.out) : gb244 ≠ gb283)); have n15_ := Aside0.mk ((by rw [hg]; exact Nat.ne_of_gt (blk_ltB BK244.out) : gb283 ≠ gb244)); have n16_ := Aside0.mk ((by rw [hg]; exact Nat.ne_of_lt (blk_ltB BK255.out) : gb255 ≠ gb283)); have n17_ := Aside0.mk ((by rw [hg]; exact Nat.ne_of_gt (blk_ltB BK255.out) : gb283 ≠ gb255)); have n18_ := Aside0.mk ((by rw [hg]; exact Nat.ne_of_lt (blk_ltB BK256.out) : gb256 ≠ gb283)); have n19_ := Aside0.mk ((by rw [hg]; exact Nat.ne_of_gt (blk_ltB BK256.out) : gb283 ≠ gb256)); have n20_ := Aside0.mk ((by rw [hg]; exact Nat.ne_of_lt (blk_ltB BK275.out) : gb275 ≠ gb283)); have n21_ := Aside0.mk ((by rw [hg]; exact Nat.ne_of_gt (blk_ltB BK275.out) : gb283 ≠ gb275)); have n22_ := Aside0.mk ((by rw [hg]; exact Nat.ne_of_lt (blk_ltB BK276.out) : gb276 ≠ gb283)); have n23_ := Aside0.mk ((by rw [hg]; exact Nat.ne_of_gt (blk_ltB BK276.out) : gb283 ≠ gb276)); clear HO252; clear HO281; clear BK243; clear BK244; clear BK255; clear BK256; clear BK275; clear BK276; clear HB; have HO252 := n0_; have HO281 := n1_; have BK243 := n2_; have BK244 := n3_; have BK255 := n4_; have BK256 := n5_; have BK275 := n6_; have BK276 := n7_; have HB := n8_; have BK283 := n9_; have GW283 := n10_; have GE283 := n11_; have NB243_283 := n12_; have NB283_243 := n13_; have NB244_283 := n14_; have NB283_244 := n15_; have NB255_283 := n16_; have NB283_255 := n17_; have NB256_283 := n18_; have NB283_256 := n19_; have NB275_283 := n20_; have NB283_275 := n21_; have NB276_283 := n22_; have NB283_276 := n23_; clear n0_ n1_ n2_ n3_ n4_ n5_ n6_ n7_ n8_ n9_ n10_ n11_ n12_ n13_ n14_ n15_ n16_ n17_ n18_ n19_ n20_ n21_ n22_ n23_; clear hb hbox hg; have hnb53 := NB283_243.out; have hnc53 := NB243_283.out; have hnb54 := NB283_244.out; have hnc54 := NB244_283.out; have hnb55 := NB283_255.out; have hnc55 := NB255_283.out; have hnb56 := NB283_256.out; have hnc56 := NB256_283.out; have hnb57 := NB283_275.out; have hnc57 := NB275_283.out; have hnb58 := NB283_276.out; have hnc58 := NB276_283.out; obtain ⟨hcz59_0, hcz59_1, hcz59_2⟩ := blk_cs3 BK283.out; obtain ⟨hfz59_0, hfz59_1, hfz59_2⟩ := blk_fs3 BK283.out; obtain ⟨Ao60, co60, eo60⟩ := Kd.R_slice HO281.out; subst eo60; obtain ⟨hcz61_0, hcz61_1, hcz61_2⟩ := blk_cs3 BK243.out; obtain ⟨hfz61_0, hfz61_1, hfz61_2⟩ := blk_fs3 BK243.out; obtain ⟨hcz62_0, hcz62_1, hcz62_2, hcz62_3, hcz62_4, hcz62_5, hcz62_6, hcz62_7, hcz62_8⟩ := blk_cs9 BK276.out; obtain ⟨hfz62_0, hfz62_1, hfz62_2, hfz62_3, hfz62_4, hfz62_5, hfz62_6, hfz62_7, hfz62_8⟩ := blk_fs9 BK276.out) | ((with_reducible refine gate_callee (f := 68) rfl ?_); refine goesL_ (some 49) rfl rfl Tryz.func68 (by kernel_rfl) rfl #[.agg #[.slice A0_0 l0_0.length c0_0, .slice A0_1 l0_1.length c0_1, .slice A0_2 l0_2.length c0_2], .string t268] rfl hgl ?_; (with_reducible refine (timetable_ZoneOf.calls _ _ l0_0 _ _ l0_1 _ _ l0_2 t268 t284 t285 t286 t289 _ ?side1 ?side2 ?side3 ?side4 ?side5 ?side6 A8.out).mono ?_); (case side1 => exact Kd.C_below HR0_0.out hbk); (case side2 => exact HC0_0.out); (case side3 => exact Kd.C_below HR0_1.out hbk); (case side4 => exact HC0_1.out); (case side5 => exact Kd.C_below HR0_2.out hbk); (case side6 => exact HC0_2.out); rintro e w63 ⟨v287, rfl, ho0, hb⟩; refine ⟨_, rfl, ?_⟩; have n0_ := Aside0.mk (Kd.R_below (by (with_reducible repeat (first | apply Kd.R_alloc | apply Kd.R_drewN | apply Kd.R_drew)); exact (Kd.R_mono (Kd.R_far (p := ⟨gb283, 2, none⟩) (Kd.R_far (p := ⟨gb283, 1, none⟩) (Kd.R_far (p := ⟨gb283, 0, none⟩) (Kd.R_types HO252.out BK283.out (by decide)) (fun _ hk => hk.2) (.string t277)) (fun _ hk => hk.2) (.int .i64 t278)) (fun _ hk => hk.2) (.slice Ao60 t279.length co60)) (fun _ h_ => h_.1))) hb); have n1_ := Aside0.mk (Kd.R_elder' (by (with_reducible repeat (first | apply Kd.R_alloc | apply Kd.R_drewN | apply Kd.R_drew)); exact (Kd.R_mono (Kd.R_far (p := ⟨gb283, 2, none⟩) (Kd.R_far (p := ⟨gb283, 1, none⟩) (Kd.R_far (p := ⟨gb283, 0, none⟩) (Kd.R_types HO281.out BK283.out (by decide)) (fun _ hk => hk.2) (.string t277)) (fun _ hk => hk.2) (.int .i64 t278)) (fun _ hk => hk.2) (.slice Ao60 t279.length co60)) (fun _ h_ => h_.1))) (Kd.R_base ho0) hb); have n2_ := Aside0.mk (Kd.R_lower (Kd.R_new' ho0 (Kd.R_lt (by (with_reducible repeat (first | apply Kd.R_alloc | apply Kd.R_drewN | apply Kd.R_drew)); exact (Kd.R_mono (Kd.R_far (p := ⟨gb283, 2, none⟩) (Kd.R_far (p := ⟨gb283, 1, none⟩) (Kd.R_far (p := ⟨gb283, 0, none⟩) (Kd.R_types HO281.out BK283.out (by decide)) (fun _ hk => hk.2) (.string t277)) (fun _ hk => hk.2) (.int .i64 t278)) (fun _ hk => hk.2) (.slice Ao60 t279.length co60)) (fun _ h_ => h_.1))))) (below_size hbk)); have n3_ := Aside0.mk (blk_belowB BK243.out hb); have n4_ := Aside0.mk (blk_belowB BK244.out hb); have n5_ := Aside0.mk (blk_belowB BK255.out hb); have n6_ := Aside0.mk (blk_belowB BK256.out hb); have n7_ := Aside0.mk (blk_belowB BK275.out hb); have n8_ := Aside0.mk (blk_belowB BK276.out hb); have n9_ := Aside0.mk (blk_below (g := gb283) (o := .cells #[.string t277, .int .i64 t278, .slice Ao60 t279.length co60] 83 (0, 0)) (by (with_reducible repeat (first | refine blk_drewN ?_ _ | refine blk_drew ?_ | refine blk_alloc ?_ _)); refine blk_put (cs := #[.string t277, .int .i64 t278, .slice none 0 0]) ?_ 2 _ rfl; refine blk_put (cs := #[.string t277, .int .i64 0, .slice none 0 0]) ?_ 1 _ rfl; refine blk_put (cs := #[.string (⟨#[]⟩ : ByteArray), .int .i64 0, .slice none 0 0]) ?_ 0 _ rfl; (with_reducible repeat (first | refine blk_drewN ?_ _ | refine blk_drew ?_ | refine blk_alloc ?_ _)); exact BK283.out) hb); have n10_ := Aside0.mk (below_step hbk hb); clear HO252; clear HO281; clear BK243; clear BK244; clear BK255; clear BK256; clear BK275; clear BK276; clear BK283; clear HB; have HO252 := n0_; have HO281 := n1_; have HO288 := n2_; have BK243 := n3_; have BK244 := n4_; have BK255 := n5_; have BK256 := n6_; have BK275 := n7_; have BK276 := n8_; have BK283 := n9_; have HB := n10_; clear n0_ n1_ n2_ n3_ n4_ n5_ n6_ n7_ n8_ n9_ n10_; (try clear hb); (try clear hb2); (try clear hk); (try clear hi); (try clear ho0)) | ((with_reducible refine gate_dst (N := 13) rfl ?_); refine box_event ?hg (N := 13) ?hd (cs := #[.string (⟨#[]⟩ : ByteArray), .int .i64 0, .slice none 0 0]) (t := 83) ?hr ?_; (case hd => rfl); (case hg => rfl); (case hr => first | (go_simp; done) | (go_simp; rfl)); intro gb290 hg w64 hbox hb; have n0_ := Aside0.mk (R_belowB HO252.out hb); have n1_ := Aside0.mk (R_belowB HO281.out hb); have n2_ := Aside0.mk (R_belowB HO288.out hb); have n3_ := Aside0.mk (blk_belowB BK243.out hb); have n4_ := Aside0.mk (blk_belowB BK244.out hb); have n5_ := Aside0.mk (blk_belowB BK255.out hb); have n6_ := Aside0.mk (blk_belowB BK256.out hb); have n7_ := Aside0.mk (blk_belowB BK275.out hb); have n8_ := Aside0.mk (blk_belowB BK276.out hb); have n9_ := Aside0.mk (blk_belowB BK283.out hb); have n10_ := Aside0.mk (below_step hbk hb); have n11_ := Aside0.mk hbox; have n12_ := Aside0.mk ((by rw [hg]; exact (below_size hbk) : w.heap.size ≤ gb290)); have n13_ := Aside0.mk ((by rw [hg]; exact (below_size hbk) : w.heap.size ≤ gb290)); have n14_ := Aside0.mk ((by rw [hg]; exact Nat.ne_of_lt (blk_ltB BK243.out) : gb243 ≠ gb290)); have n15_ := Aside0.mk ((by rw [hg]; exact Nat.ne_of_gt (blk_ltB BK243.out) : gb290 ≠ gb243)); have n16_ := Aside0.mk ((by rw [hg]; exact Nat.ne_of_lt (blk_ltB BK244.out) : gb244 ≠ gb290)); have n17_ := Aside0.mk ((by rw [hg]; exact Nat.ne_of_gt (blk_ltB BK244.out) : gb290 ≠ gb244)); have n18_ := Aside0.mk ((by rw [hg]; exact Nat.ne_of_lt (blk_ltB BK255.out) : gb255 ≠ gb290)); have n19_ := Aside0.mk ((by rw [hg]; exact Nat.ne_of_gt (blk_ltB BK255.out) : gb290 ≠ gb255)); have n20_ := Aside0.mk ((by rw [hg]; exact Nat.ne_of_lt (blk_ltB BK256.out) : gb256 ≠ gb290)); have n21_ := Aside0.mk ((by rw [hg]; exact Nat.ne_of_gt (blk_ltB BK256.out) : gb290 ≠ gb256)); have n22_ := Aside0.mk ((by rw [hg]; exact Nat.ne_of_lt (blk_ltB BK275.out) : gb275 ≠ gb290)); have n23_ := Aside0.mk ((by rw [hg]; exact Nat.ne_of_gt (blk_ltB BK275.out) : gb290 ≠ gb275)); have n24_ := Aside0.mk ((by rw [hg]; exact Nat.ne_of_lt (blk_ltB BK276.out) : gb276 ≠ gb290)); have n25_ := Aside0.mk ((by rw [hg]; exact Nat.ne_of_gt (blk_ltB BK276.out) : gb290 ≠ gb276)); have n26_ := Aside0.mk ((by rw [hg]; exact Nat.ne_of_lt (blk_ltB BK283.out) : gb283 ≠ gb290)); have n27_ := Aside0.mk ((by rw [hg]; exact Nat.ne_of_gt (blk_ltB BK283.out) : gb290 ≠ gb283)); clear HO252; clear HO281; clear HO288; clear BK243; clear BK244; clear BK255; clear BK256; clear BK275; clear BK276; clear BK283; clear HB; have HO252 := n0_; have HO281 := n1_; have HO288 := n2_; have BK243 := n3_; have BK244 := n4_; have BK255 := n5_; have BK256 := n6_; have BK275 := n7_; have BK276 := n8_; have BK283 := n9_; have HB := n10_; have BK290 := n11_; have GW290 := n12_; have GE290 := n13_; have NB243_290 := n14_; have NB290_243 := n15_; have NB244_290 := n16_; have NB290_244 := n17_; have NB255_290 := n18_; have NB290_255 := n19_; have NB256_290 := n20_; have NB290_256 := n21_; have NB275_290 := n22_; have NB290_275 := n23_; have NB276_290 := n24_; have NB290_276 := n25_; have NB283_290 := n26_; have NB290_283 := n27_; clear n0_ n1_ n2_ n3_ n4_ n5_ n6_ n7_ n8_ n9_ n10_ n11_ n12_ n13_ n14_ n15_ n16_ n17_ n18_ n19_ n20_ n21_ n22_ n23_ n24_ n25_ n26_ n27_; clear hb hbox hg; have hnb65 := NB290_243.out; have hnc65 := NB243_290.out; have hnb66 := NB290_244.out; have hnc66 := NB244_290.out; have hnb67 := NB290_255.out; have hnc67 := NB255_290.out; have hnb68 := NB290_256.out; have hnc68 := NB256_290.out; have hnb69 := NB290_275.out; have hnc69 := NB275_290.out; have hnb70 := NB290_276.out; have hnc70 := NB276_290.out; have hnb71 := NB290_283.out; have hnc71 := NB283_290.out; obtain ⟨hcz72_0, hcz72_1, hcz72_2⟩ := blk_cs3 BK290.out; obtain ⟨hfz72_0, hfz72_1, hfz72_2⟩ := blk_fs3 BK290.out; obtain ⟨Ao73, co73, eo73⟩ := Kd.R_slice HO288.out; subst eo73; obtain ⟨hcz74_0, hcz74_1, hcz74_2⟩ := blk_cs3 BK283.out; obtain ⟨hfz74_0, hfz74_1, hfz74_2⟩ := blk_fs3 BK283.out; have hnb75 := NB256_244.out; have hnc75 := NB244_256.out; have hnb76 := NB256_255.out; have hnc76 := NB255_256.out; obtain ⟨hcz77_0, hcz77_1⟩ := blk_cs2 BK256.out; obtain ⟨hfz77_0, hfz77_1⟩ := blk_fs2 BK256.out; have hnb78 := NB244_255.out; have hnc78 := NB255_244.out; obtain ⟨hcz79_0, hcz79_1, hcz79_2, hcz79_3, hcz79_4, hcz79_5, hcz79_6, hcz79_7, hcz79_8, hcz79_9, hcz79_10, hcz79_11, hcz79_12, hcz79_13⟩ := blk_cs14 BK244.out; obtain ⟨hfz79_0, hfz79_1, hfz79_2, hfz79_3, hfz79_4, hfz79_5, hfz79_6, hfz79_7, hfz79_8, hfz79_9, hfz79_10, hfz79_11, hfz79_12, hfz79_13⟩ := blk_fs14 BK244.out) | ((with_reducible refine gate_callee (f := 69) rfl ?_); refine goesL_ (some 59) rfl rfl Tryz.func69 (by kernel_rfl) rfl #[.agg #[.string t277, .int .i64 t278, .slice Ao60 t279.length co60], .agg #[.int .i64 t253, .int .i64 t254], .int .i64 a1_5, .int .i64 a1_6] rfl hgl ?_; (with_reducible refine (zone_BandMinutes.calls k t277 t278 _ _ t279 t253 t254 a1_5 a1_6 t291 t292 _ ?side1 ?side2 A9.out).mono ?_); (case side1 => refine (Kd.R_reads' (e := 120) (base := w.heap.size) (ok := fun k_ => (True ∧ some k_ ≠ (.slice Ao73 t286.length co73 : Value).ownBlock)) (n := t279.length) (c := co60) ?_).2.2; exact (by (with_reducible repeat (first | apply Kd.R_alloc | apply Kd.R_drewN | apply Kd.R_drew)); exact (Kd.R_mono (Kd.R_far (p := ⟨gb290, 2, none⟩) (Kd.R_far (p := ⟨gb290, 1, none⟩) (Kd.R_far (p := ⟨gb290, 0, none⟩) (Kd.R_types HO281.out BK290.out (by decide)) (fun _ hk => hk.2) (.string t284)) (fun _ hk => hk.2) (.int .i64 t285)) (fun _ hk => hk.2) (.slice Ao73 t286.length co73)) (fun _ h_ => h_.1)))); (case side2 => exact (Kd.R_reads' HO281.out).2.1); rintro e w80 ⟨rfl, hb⟩; refine ⟨_, rfl, ?_⟩; have n0_ := Aside0.mk (Kd.R_below (by (with_reducible repeat (first | apply Kd.R_alloc | apply Kd.R_drewN | apply Kd.R_drew)); exact (Kd.R_mono (Kd.R_far (p := ⟨gb290, 2, none⟩) (Kd.R_far (p := ⟨gb290, 1, none⟩) (Kd.R_far (p := ⟨gb290, 0, none⟩) (Kd.R_types HO252.out BK290.out (by decide)) (fun _ hk => hk.2) (.string t284)) (fun _ hk => hk.2) (.int .i64 t285)) (fun _ hk => hk.2) (.slice Ao73 t286.length co73)) (fun _ h_ => h_.1))) hb); have n1_ := Aside0.mk (Kd.R_below (by (with_reducible repeat (first | apply Kd.R_alloc | apply Kd.R_drewN | apply Kd.R_drew)); exact (Kd.R_mono (Kd.R_far (p := ⟨gb290, 2, none⟩) (Kd.R_far (p := ⟨gb290, 1, none⟩) (Kd.R_far (p := ⟨gb290, 0, none⟩) (Kd.R_types HO281.out BK290.out (by decide)) (fun _ hk => hk.2) (.string t284)) (fun _ hk => hk.2) (.int .i64 t285)) (fun _ hk => hk.2) (.slice Ao73 t286.length co73)) (fun _ h_ => h_.1))) hb); have n2_ := Aside0.mk (Kd.R_below (by (with_reducible repeat (first | apply Kd.R_alloc | apply Kd.R_drewN | apply Kd.R_drew)); exact (Kd.R_mono (Kd.R_far (p := ⟨gb290, 2, none⟩) (Kd.R_far (p := ⟨gb290, 1, none⟩) (Kd.R_far (p := ⟨gb290, 0, none⟩) (Kd.R_types HO288.out BK290.out (by decide)) (fun _ hk => hk.2) (.string t284)) (fun _ hk => hk.2) (.int .i64 t285)) (fun _ hk => hk.2) (.slice Ao73 t286.length co73)) (fun _ h_ => h_.1))) hb); have n3_ := Aside0.mk (blk_belowB BK243.out hb); have n4_ := Aside0.mk (blk_belowB BK244.out hb); have n5_ := Aside0.mk (blk_belowB BK255.out hb); have n6_ := Aside0.mk (blk_belowB BK256.out hb); have n7_ := Aside0.mk (blk_belowB BK275.out hb); have n8_ := Aside0.mk (blk_belowB BK276.out hb); have n9_ := Aside0.mk (blk_belowB BK283.out hb); have n10_ := Aside0.mk (blk_below (g := gb290) (o := .cells #[.string t284, .int .i64 t285, .slice Ao73 t286.length co73] 83 (0, 0)) (by (with_reducible repeat (first | refine blk_drewN ?_ _ | refine blk_drew ?_ | refine blk_alloc ?_ _)); refine blk_put (cs := #[.string t284, .int .i64 t285, .slice none 0 0]) ?_ 2 _ rfl; refine blk_put (cs := #[.string t284, .int .i64 0, .slice none 0 0]) ?_ 1 _ rfl; refine blk_put (cs := #[.string (⟨#[]⟩ : ByteArray), .int .i64 0, .slice none 0 0]) ?_ 0 _ rfl; (with_reducible repeat (first | refine blk_drewN ?_ _ | refine blk_drew ?_ | refine blk_alloc ?_ _)); exact BK290.out) hb); have n11_ := Aside0.mk (below_step hbk hb); clear HO252; clear HO281; clear HO288; clear BK243; clear BK244; clear BK255; clear BK256; clear BK275; clear BK276; clear BK283; clear BK290; clear HB; have HO252 := n0_; have HO281 := n1_; have HO288 := n2_; have BK243 := n3_; have BK244 := n4_; have BK255 := n5_; have BK256 := n6_; have BK275 := n7_; have BK276 := n8_; have BK283 := n9_; have BK290 := n10_; have HB := n11_; clear n0_ n1_ n2_ n3_ n4_ n5_ n6_ n7_ n8_ n9_ n10_ n11_; (try clear hb); (try clear hb2); (try clear hk); (try clear hi); obtain ⟨hcz81_0, hcz81_1, hcz81_2⟩ := blk_cs3 BK283.out; obtain ⟨hfz81_0, hfz81_1, hfz81_2⟩ := blk_fs3 BK283.out; obtain ⟨hcz82_0, hcz82_1⟩ := blk_cs2 BK256.out; obtain ⟨hfz82_0, hfz82_1⟩ := blk_fs2 BK256.out) | ((with_reducible refine gate_callee (f := 70) rfl ?_); refine goesL_ (some 66) rfl rfl Tryz.func70 (by kernel_rfl) rfl #[.agg #[.string t277, .int .i64 t278, .slice Ao60 t279.length co60], .int .i64 t253] rfl hgl ?_; (with_reducible refine (zone_OffsetAt.calls k t277 t278 _ _ t279 t253 t293 t294 _ ?side1 ?side2 A10.out).mono ?_); (case side1 => repeat (first | exact (Kd.R_reads' HO281.out).2.2 | (with_reducible refine Kd.C_alloc ?_ _) | (with_reducible refine Kd.C_drewN ?_ _) | (with_reducible refine Kd.C_drew ?_))); (case side2 => exact (Kd.R_reads' HO281.out).2.1); rintro e w83 ⟨rfl, hb⟩; refine ⟨_, rfl, ?_⟩; have n0_ := Aside0.mk (R_belowB HO252.out hb); have n1_ := Aside0.mk (R_belowB HO281.out hb); have n2_ := Aside0.mk (R_belowB HO288.out hb); have n3_ := Aside0.mk (blk_belowB BK243.out hb); have n4_ := Aside0.mk (blk_belowB BK244.out hb); have n5_ := Aside0.mk (blk_belowB BK255.out hb); have n6_ := Aside0.mk (blk_belowB BK256.out hb); have n7_ := Aside0.mk (blk_belowB BK275.out hb); have n8_ := Aside0.mk (blk_belowB BK276.out hb); have n9_ := Aside0.mk (blk_belowB BK283.out hb); have n10_ := Aside0.mk (blk_belowB BK290.out hb); have n11_ := Aside0.mk (below_step hbk hb); clear HO252; clear HO281; clear HO288; clear BK243; clear BK244; clear BK255; clear BK256; clear BK275; clear BK276; clear BK283; clear BK290; clear HB; have HO252 := n0_; have HO281 := n1_; have HO288 := n2_; have BK243 := n3_; have BK244 := n4_; have BK255 := n5_; have BK256 := n6_; have BK275 := n7_; have BK276 := n8_; have BK283 := n9_; have BK290 := n10_; have HB := n11_; clear n0_ n1_ n2_ n3_ n4_ n5_ n6_ n7_ n8_ n9_ n10_ n11_; (try clear hb); (try clear hb2); (try clear hk); (try clear hi); obtain ⟨hcz84_0, hcz84_1, hcz84_2⟩ := blk_cs3 BK290.out; obtain ⟨hfz84_0, hfz84_1, hfz84_2⟩ := blk_fs3 BK290.out; obtain ⟨hcz85_0, hcz85_1⟩ := blk_cs2 BK256.out; obtain ⟨hfz85_0, hfz85_1⟩ := blk_fs2 BK256.out) | ((with_reducible refine gate_callee (f := 70) rfl ?_); refine goesL_ (some 73) rfl rfl Tryz.func70 (by kernel_rfl) rfl #[.agg #[.string t284, .int .i64 t285, .slice Ao73 t286.length co73], .int .i64 t254] rfl hgl ?_; (with_reducible refine (zone_OffsetAt.calls k t284 t285 _ _ t286 t254 t295 t296 _ ?side1 ?side2 A11.out).mono ?_); (case side1 => repeat (first | exact (Kd.R_reads' HO288.out).2.2 | (with_reducible refine Kd.C_alloc ?_ _) | (with_reducible refine Kd.C_drewN ?_ _) | (with_reducible refine Kd.C_drew ?_))); (case side2 => exact (Kd.R_reads' HO288.out).2.1); rintro e w86 ⟨rfl, hb⟩; refine ⟨_, rfl, ?_⟩; have n0_ := Aside0.mk (R_belowB HO252.out hb); have n1_ := Aside0.mk (R_belowB HO281.out hb); have n2_ := Aside0.mk (R_belowB HO288.out hb); have n3_ := Aside0.mk (blk_belowB BK243.out hb); have n4_ := Aside0.mk (blk_belowB BK244.out hb); have n5_ := Aside0.mk (blk_belowB BK255.out hb); have n6_ := Aside0.mk (blk_belowB BK256.out hb); have n7_ := Aside0.mk (blk_belowB BK275.out hb); have n8_ := Aside0.mk (blk_belowB BK276.out hb); have n9_ := Aside0.mk (blk_belowB BK283.out hb); have n10_ := Aside0.mk (blk_belowB BK290.out hb); have n11_ := Aside0.mk (below_step hbk hb); clear HO252; clear HO281; clear HO288; clear BK243; clear BK244; clear BK255; clear BK256; clear BK275; clear BK276; clear BK283; clear BK290; clear HB; have HO252 := n0_; have HO281 := n1_; have HO288 := n2_; have BK243 := n3_; have BK244 := n4_; have BK255 := n5_; have BK256 := n6_; have BK275 := n7_; have BK276 := n8_; have BK283 := n9_; have BK290 := n10_; have HB := n11_; clear n0_ n1_ n2_ n3_ n4_ n5_ n6_ n7_ n8_ n9_ n10_ n11_; (try clear hb); (try clear hb2); (try clear hk); (try clear hi); obtain ⟨hcz87_0, hcz87_1⟩ := blk_cs2 BK256.out; obtain ⟨hfz87_0, hfz87_1⟩ := blk_fs2 BK256.out) | ((with_reducible refine gate_callee (f := 71) rfl ?_); refine goesL_ (some 81) rfl rfl Tryz.func71 (by kernel_rfl) rfl #[.int .i64 (wrap64 (t253 + t293))] rfl hgl ?_; (with_reducible refine (calendar_SplitMinute.calls (wrap64 (t253 + t293)) t297 t298 _ A12.out).mono ?_); rintro e w' ⟨rfl, ⟨nd, rfl⟩⟩; refine ⟨_, rfl, ?_⟩) | ((with_reducible refine gate_callee (f := 71) rfl ?_); refine goesL_ (some 89) rfl rfl Tryz.func71 (by kernel_rfl) rfl #[.int .i64 (wrap64 (t254 + t295))] rfl hgl ?_; (with_reducible refine (calendar_SplitMinute.calls (wrap64 (t254 + t295)) t299 t300 _ A13.out).mono ?_); rintro e w' ⟨rfl, ⟨nd, rfl⟩⟩; refine ⟨_, rfl, ?_⟩; obtain ⟨hcz88_0, hcz88_1, hcz88_2, hcz88_3, hcz88_4, hcz88_5⟩ := blk_cs6 BK255.out; obtain ⟨hfz88_0, hfz88_1, hfz88_2, hfz88_3, hfz88_4, hfz88_5⟩ := blk_fs6 BK255.out) | ((with_reducible refine gate_dst (N := 120) rfl ?_); refine Kd.R_lit (Kd.int .i64) _ 3 ?hg (N := 120) ?hd (xs := ([t245, t246, (t250.length : Int), t247, wrap64 (t254 - t253), t291, t248, t249, ji14, t298, t300] : List Int)) (inner := [.int .i64 t245, .int .i64 t246, .int .i64 (t250.length : Int), .int .i64 t247, .int .i64 (wrap64 (t254 - t253)), .int .i64 t291, .int .i64 t248, .int .i64 t249, .int .i64 ji14, .int .i64 t298, .int .i64 t300]) (ok := fun _ => True) (okp := fun _ => True) ?hr ?hp (fun _ hk => hk) trivial (Below.refl _ _) (Nat.le_refl _) (by simp) ?_; (case hd => rfl); (case hg => rfl); (case hr => first | (go_simp; done) | (go_simp; rfl)); (case hp => exact (Reps.one (show Kd.M (Kd.int .i64) _ _ _ t245 [.int .i64 t245] from rfl) (Reps.one (show Kd.M (Kd.int .i64) _ _ _ t246 [.int .i64 t246] from rfl) (Reps.one (show Kd.M (Kd.int .i64) _ _ _ (t250.length : Int) [.int .i64 (t250.length : Int)] from rfl) (Reps.one (show Kd.M (Kd.int .i64) _ _ _ t247 [.int .i64 t247] from rfl) (Reps.one (show Kd.M (Kd.int .i64) _ _ _ (wrap64 (t254 - t253)) [.int .i64 (wrap64 (t254 - t253))] from rfl) (Reps.one (show Kd.M (Kd.int .i64) _ _ _ t291 [.int .i64 t291] from rfl) (Reps.one (show Kd.M (Kd.int .i64) _ _ _ t248 [.int .i64 t248] from rfl) (Reps.one (show Kd.M (Kd.int .i64) _ _ _ t249 [.int .i64 t249] from rfl) (Reps.one (show Kd.M (Kd.int .i64) _ _ _ ji14 [.int .i64 ji14] from rfl) (Reps.one (show Kd.M (Kd.int .i64) _ _ _ t298 [.int .i64 t298] from rfl) (Reps.one (show Kd.M (Kd.int .i64) _ _ _ t300 [.int .i64 t300] from rfl) (Reps.none _ _))))))))))))); intro v302 w89 ho90 hb hg_ hnew_; clear hg_ hnew_; (first | rw [← Ny301.out] at ho90 | (simp only [Int.reduceToNat] at ho90; rw [← Ny301.out] at ho90)); have n0_ := Aside0.mk (R_belowB HO252.out hb); have n1_ := Aside0.mk (R_belowB HO281.out hb); have n2_ := Aside0.mk (R_belowB HO288.out hb); have n3_ := Aside0.mk (Kd.R_lower ho90 (below_size hbk)); have n4_ := Aside0.mk (blk_belowB BK243.out hb); have n5_ := Aside0.mk (blk_belowB BK244.out hb); have n6_ := Aside0.mk (blk_belowB BK255.out hb); have n7_ := Aside0.mk (blk_belowB BK256.out hb); have n8_ := Aside0.mk (blk_belowB BK275.out hb); have n9_ := Aside0.mk (blk_belowB BK276.out hb); have n10_ := Aside0.mk (blk_belowB BK283.out hb); have n11_ := Aside0.mk (blk_belowB BK290.out hb); have n12_ := Aside0.mk (below_step hbk hb); clear HO252; clear HO281; clear HO288; clear BK243; clear BK244; clear BK255; clear BK256; clear BK275; clear BK276; clear BK283; clear BK290; clear HB; have HO252 := n0_; have HO281 := n1_; have HO288 := n2_; have HO303 := n3_; have BK243 := n4_; have BK244 := n5_; have BK255 := n6_; have BK256 := n7_; have BK275 := n8_; have BK276 := n9_; have BK283 := n10_; have BK290 := n11_; have HB := n12_; clear n0_ n1_ n2_ n3_ n4_ n5_ n6_ n7_ n8_ n9_ n10_ n11_ n12_; clear hb ho90))
 go_ret
 exact ⟨_, by first | rfl | (simp [errW_none, errW_some] <;> rfl) | (simp only [← hji14]; first | rfl | (simp [errW_none, errW_some] <;> rfl)) | (simp [*, errW_none, errW_some] <;> rfl), by (with_reducible repeat (first | apply Kd.R_alloc | apply Kd.R_drewN | apply Kd.R_drew)); exact HO303.out, hbk⟩
end Go.Proofs.YtilnppdognejbaaGreatDoor.P
namespace Go.Proofs.YtilnppdognejbaaGreatDoor.P
open Go.RowKit Go.Proofs.YtilnppdognejbaaGreatDoorW.PrintWords Go.Proofs.YtilnppdognejbaaGreatDoorW.PrintLast Go.Proofs.YtilnppdognejbaaGreatDoorW.PrintMore
attribute [local go_sem] max2_int min2_int max_two min_two max_three min_three max_four min_four   -- for this text's walks alone
set_option linter.unusedVariables false
set_option linter.unusedSimpArgs false
def measure_DutyAttributes.f (k : Nat) (l0_0 : List (S83)) (l0_1 : List (S86)) (l0_2 : List (S73)) (a1_0 : Int) (a1_1 : Int) (a1_2 : Int) (a1_3 : Int) (a1_4 : Int) (a1_5 : Int) (a1_6 : Int) (l1_7 : List (S105)) (l1_8 : List (S107)) (l1_9 : List (S109)) (l1_10 : List (S103)) (l1_11 : List (S154)) (l1_12 : List (S161)) (a1_13 : Int) (l2 : List (S50)) : Option ((List (S62)) × Int) := (measure_DutyStructure.f k l0_0 l0_1 l0_2 a1_0 a1_1 a1_2 a1_3 a1_4 a1_5 a1_6 l1_7 l1_8 l1_9 l1_10 l1_11 l1_12 a1_13 l2).bind fun t306 => (if t306 = 0 then ((measure_dutyValues.f k l0_0 l0_1 l0_2 a1_0 a1_1 a1_2 a1_3 a1_4 a1_5 a1_6 l1_7 l1_8 l1_9 l1_10 l1_11 l1_12 a1_13 l2).bind fun t307 => ((measure_list.f k 1 t307).bind fun t310 => (some (t310, 0)))) else (some (([] : List (S62)), t306)))
set_option maxHeartbeats 8000000 in
set_option maxRecDepth 100000 in
theorem measure_DutyAttributes.calls (k : Nat) (A0_0 : Option Addr) (c0_0 : Nat) (l0_0 : List (S83)) (A0_1 : Option Addr) (c0_1 : Nat) (l0_1 : List (S86)) (A0_2 : Option Addr) (c0_2 : Nat) (l0_2 : List (S73)) (a1_0 : Int) (a1_1 : Int) (a1_2 : Int) (a1_3 : Int) (a1_4 : Int) (a1_5 : Int) (a1_6 : Int) (A1_7 : Option Addr) (c1_7 : Nat) (l1_7 : List (S105)) (A1_8 : Option Addr) (c1_8 : Nat) (l1_8 : List (S107)) (A1_9 : Option Addr) (c1_9 : Nat) (l1_9 : List (S109)) (A1_10 : Option Addr) (c1_10 : Nat) (l1_10 : List (S103)) (A1_11 : Option Addr) (c1_11 : Nat) (l1_11 : List (S154)) (A1_12 : Option Addr) (c1_12 : Nat) (l1_12 : List (S161)) (a1_13 : Int) (A2 : Option Addr) (c2 : Nat) (l2 : List (S50)) (r1 : List (S62)) (r2 : Int) (w : World) (hGL0 : GL w) (hr0_0 : Kd.C k83 w A0_0 l0_0.length l0_0) (hc0_0 : l0_0.length ≤ c0_0) (hr0_1 : Kd.C k86 w A0_1 l0_1.length l0_1) (hc0_1 : l0_1.length ≤ c0_1) (hr0_2 : Kd.C k73 w A0_2 l0_2.length l0_2) (hc0_2 : l0_2.length ≤ c0_2) (hr1_7 : Kd.C k105 w A1_7 l1_7.length l1_7) (hc1_7 : l1_7.length ≤ c1_7) (hr1_8 : Kd.C k107 w A1_8 l1_8.length l1_8) (hc1_8 : l1_8.length ≤ c1_8) (hr1_9 : Kd.C k109 w A1_9 l1_9.length l1_9) (hc1_9 : l1_9.length ≤ c1_9) (hr1_10 : Kd.C k103 w A1_10 l1_10.length l1_10) (hc1_10 : l1_10.length ≤ c1_10) (hr1_11 : Kd.C k154 w A1_11 l1_11.length l1_11) (hc1_11 : l1_11.length ≤ c1_11) (hr1_12 : Kd.C k161 w A1_12 l1_12.length l1_12) (hc1_12 : l1_12.length ≤ c1_12) (hr2 : Kd.C k50 w A2 l2.length l2) (hc2 : l2.length ≤ c2) (h : measure_DutyAttributes.f k l0_0 l0_1 l0_2 a1_0 a1_1 a1_2 a1_3 a1_4 a1_5 a1_6 l1_7 l1_8 l1_9 l1_10 l1_11 l1_12 a1_13 l2 = some (r1, r2)) :
  Calls Tryz.prog 18 #[.agg #[.slice A0_0 l0_0.length c0_0, .slice A0_1 l0_1.length c0_1, .slice A0_2 l0_2.length c0_2], .agg #[.int .i64 a1_0, .int .i64 a1_1, .int .i64 a1_2, .int .i64 a1_3, .int .i64 a1_4, .int .i64 a1_5, .int .i64 a1_6, .slice A1_7 l1_7.length c1_7, .slice A1_8 l1_8.length c1_8, .slice A1_9 l1_9.length c1_9, .slice A1_10 l1_10.length c1_10, .slice A1_11 l1_11.length c1_11, .slice A1_12 l1_12.length c1_12, .int .i64 a1_13], .slice A2 l2.length c2] w fun e w' => ∃ v0_ : Value, e = .returned (.tuple #[v0_, .int .i64 r2]) ∧ Kd.R k62 62 w' w.heap.size (fun _ => True) v0_ r1 ∧ Below w.heap.size w w' := by
 have HGL := Aside0.mk hGL0
 clear hGL0
 have hu32 := Tryz.underlying32
 have hu40 := Tryz.underlying40
 have HR0_0 := Aside0.mk hr0_0
 have HC0_0 := Aside0.mk hc0_0
 clear hr0_0 hc0_0
 have HR0_1 := Aside0.mk hr0_1
 have HC0_1 := Aside0.mk hc0_1
 clear hr0_1 hc0_1
 have HR0_2 := Aside0.mk hr0_2
 have HC0_2 := Aside0.mk hc0_2
 clear hr0_2 hc0_2
 have HR1_7 := Aside0.mk hr1_7
 have HC1_7 := Aside0.mk hc1_7
 clear hr1_7 hc1_7
 have HR1_8 := Aside0.mk hr1_8
 have HC1_8 := Aside0.mk hc1_8
 clear hr1_8 hc1_8
 have HR1_9 := Aside0.mk hr1_9
 have HC1_9 := Aside0.mk hc1_9
 clear hr1_9 hc1_9
 have HR1_10 := Aside0.mk hr1_10
 have HC1_10 := Aside0.mk hc1_10
 clear hr1_10 hc1_10
 have HR1_11 := Aside0.mk hr1_11
 have HC1_11 := Aside0.mk hc1_11
 clear hr1_11 hc1_11
 have HR1_12 := Aside0.mk hr1_12
 have HC1_12 := Aside0.mk hc1_12
 clear hr1_12 hc1_12
 have HR2 := Aside0.mk hr2
 have HC2 := Aside0.mk hc2
 clear hr2 hc2
 have HB := Aside0.mk (Below.refl w.heap.size w)
 have H : ((measure_DutyStructure.f k l0_0 l0_1 l0_2 a1_0 a1_1 a1_2 a1_3 a1_4 a1_5 a1_6 l1_7 l1_8 l1_9 l1_10 l1_11 l1_12 a1_13 l2).bind fun t306 => (if t306 = 0 then ((measure_dutyValues.f k l0_0 l0_1 l0_2 a1_0 a1_1 a1_2 a1_3 a1_4 a1_5 a1_6 l1_7 l1_8 l1_9 l1_10 l1_11 l1_12 a1_13 l2).bind fun t307 => ((measure_list.f k 1 t307).bind fun t310 => (some (t310, 0)))) else (some (([] : List (S62)), t306)))) = some (r1, r2) := h
 clear h
 replace H := Option.bind_eq_some_iff.mp H
 obtain ⟨t306, A40, H⟩ := H
 replace H : (if t306 = 0 then ((measure_dutyValues.f k l0_0 l0_1 l0_2 a1_0 a1_1 a1_2 a1_3 a1_4 a1_5 a1_6 l1_7 l1_8 l1_9 l1_10 l1_11 l1_12 a1_13 l2).bind fun t307 => ((measure_list.f k 1 t307).bind fun t310 => (some (t310, 0)))) else (some (([] : List (S62)), t306))) = some (r1, r2) := H
 have A4 := Aside0.mk A40
 clear A40
 by_cases c5 : t306 = 0
 ·rw [if_pos c5] at H
  have c5b0 : (t306 == 0) = true := beq_iff_eq.mpr c5
  have c5b1 : (t306 != 0) = false := bne_eq_false_iff_eq.mpr c5
  clear c5
  replace H := Option.bind_eq_some_iff.mp H
  obtain ⟨t307, A60, H⟩ := H
  replace H : ((measure_list.f k 1 t307).bind fun t310 => (some (t310, 0))) = some (r1, r2) := H
  have A6 := Aside0.mk A60
  clear A60
  replace H := Option.bind_eq_some_iff.mp H
  obtain ⟨t310, A70, H⟩ := H
  replace H : (some (t310, 0)) = some (r1, r2) := H
  have A7 := Aside0.mk A70
  clear A70
  simp only [Option.some.injEq, Prod.mk.injEq] at H
  obtain ⟨rfl, rfl⟩ := H
  go_enter Tryz.func18, Tryz.ntmps18
  go_wp2_with (first | ((with_reducible refine gate_dst (N := 3) rfl ?_); refine box_event ?hg (N := 3) ?hd (cs := #[.slice A0_0 l0_0.length c0_0, .slice A0_1 l0_1.length c0_1, .slice A0_2 l0_2.length c0_2]) (t := 32) ?hr ?_; (case hd => rfl); (case hg => rfl); (case hr => first | (go_simp; done) | (go_simp; rfl)); intro gb304 hg w8 hbox hb; have BK304 := Aside0.mk hbox; have GE304 := Aside0.mk ((by rw [hg]; exact (below_size hbk) : w.heap.size ≤ gb304)); replace HB := Aside0.mk (below_step hbk hb); clear hb hbox hg) | ((with_reducible refine gate_dst (N := 4) rfl ?_); refine box_event ?hg (N := 4) ?hd (cs := #[.int .i64 a1_0, .int .i64 a1_1, .int .i64 a1_2, .int .i64 a1_3, .int .i64 a1_4, .int .i64 a1_5, .int .i64 a1_6, .slice A1_7 l1_7.length c1_7, .slice A1_8 l1_8.length c1_8, .slice A1_9 l1_9.length c1_9, .slice A1_10 l1_10.length c1_10, .slice A1_11 l1_11.length c1_11, .slice A1_12 l1_12.length c1_12, .int .i64 a1_13]) (t := 40) ?hr ?_; (case hd => rfl); (case hg => rfl); (case hr => first | (go_simp; done) | (go_simp; rfl)); intro gb305 hg w9 hbox hb; have BK305 := Aside0.mk hbox; have GE305 := Aside0.mk ((by rw [hg]; exact (below_size hbk) : w.heap.size ≤ gb305)); have NB304_305 := Aside0.mk ((by rw [hg]; exact Nat.ne_of_lt (blk_ltB BK304.out) : gb304 ≠ gb305)); have NB305_304 := Aside0.mk ((by rw [hg]; exact Nat.ne_of_gt (blk_ltB BK304.out) : gb305 ≠ gb304)); replace BK304 := Aside0.mk (blk_belowB BK304.out hb); replace HB := Aside0.mk (below_step hbk hb); clear hb hbox hg; have hnb10 := NB304_305.out; have hnc10 := NB305_304.out; obtain ⟨hcz11_0, hcz11_1, hcz11_2⟩ := blk_cs3 BK304.out; obtain ⟨hfz11_0, hfz11_1, hfz11_2⟩ := blk_fs3 BK304.out; obtain ⟨hcz12_0, hcz12_1, hcz12_2, hcz12_3, hcz12_4, hcz12_5, hcz12_6, hcz12_7, hcz12_8, hcz12_9, hcz12_10, hcz12_11, hcz12_12, hcz12_13⟩ := blk_cs14 BK305.out; obtain ⟨hfz12_0, hfz12_1, hfz12_2, hfz12_3, hfz12_4, hfz12_5, hfz12_6, hfz12_7, hfz12_8, hfz12_9, hfz12_10, hfz12_11, hfz12_12, hfz12_13⟩ := blk_fs14 BK305.out) | ((with_reducible refine gate_callee (f := 47) rfl ?_); refine goesL_ (some 12) rfl rfl Tryz.func47 (by kernel_rfl) rfl #[.agg #[.slice A0_0 l0_0.length c0_0, .slice A0_1 l0_1.length c0_1, .slice A0_2 l0_2.length c0_2], .agg #[.int .i64 a1_0, .int .i64 a1_1, .int .i64 a1_2, .int .i64 a1_3, .int .i64 a1_4, .int .i64 a1_5, .int .i64 a1_6, .slice A1_7 l1_7.length c1_7, .slice A1_8 l1_8.length c1_8, .slice A1_9 l1_9.length c1_9, .slice A1_10 l1_10.length c1_10, .slice A1_11 l1_11.length c1_11, .slice A1_12 l1_12.length c1_12, .int .i64 a1_13], .slice A2 l2.length c2] rfl hgl ?_; (with_reducible refine (measure_DutyStructure.calls k _ _ l0_0 _ _ l0_1 _ _ l0_2 a1_0 a1_1 a1_2 a1_3 a1_4 a1_5 a1_6 _ _ l1_7 _ _ l1_8 _ _ l1_9 _ _ l1_10 _ _ l1_11 _ _ l1_12 a1_13 _ _ l2 t306 _ ?side1 ?side2 ?side3 ?side4 ?side5 ?side6 ?side7 ?side8 ?side9 ?side10 ?side11 ?side12 ?side13 ?side14 ?side15 ?side16 ?side17 ?side18 ?side19 ?side20 A4.out).mono ?_); (case side1 => exact Kd.C_below HR0_0.out hbk); (case side2 => exact HC0_0.out); (case side3 => exact Kd.C_below HR0_1.out hbk); (case side4 => exact HC0_1.out); (case side5 => exact Kd.C_below HR0_2.out hbk); (case side6 => exact HC0_2.out); (case side7 => exact Kd.C_below HR1_7.out hbk); (case side8 => exact HC1_7.out); (case side9 => exact Kd.C_below HR1_8.out hbk); (case side10 => exact HC1_8.out); (case side11 => exact Kd.C_below HR1_9.out hbk); (case side12 => exact HC1_9.out); (case side13 => exact Kd.C_below HR1_10.out hbk); (case side14 => exact HC1_10.out); (case side15 => exact Kd.C_below HR1_11.out hbk); (case side16 => exact HC1_11.out); (case side17 => exact Kd.C_below HR1_12.out hbk); (case side18 => exact HC1_12.out); (case side19 => exact Kd.C_below HR2.out hbk); (case side20 => exact HC2.out); rintro e w13 ⟨rfl, hb⟩; refine ⟨_, rfl, ?_⟩; have n0_ := Aside0.mk (blk_belowB BK304.out hb); have n1_ := Aside0.mk (blk_belowB BK305.out hb); have n2_ := Aside0.mk (below_step hbk hb); clear BK304; clear BK305; clear HB; have BK304 := n0_; have BK305 := n1_; have HB := n2_; clear n0_ n1_ n2_; (try clear hb); (try clear hb2); (try clear hk); (try clear hi); obtain ⟨hcz14_0, hcz14_1, hcz14_2⟩ := blk_cs3 BK304.out; obtain ⟨hfz14_0, hfz14_1, hfz14_2⟩ := blk_fs3 BK304.out; obtain ⟨hcz15_0, hcz15_1, hcz15_2, hcz15_3, hcz15_4, hcz15_5, hcz15_6, hcz15_7, hcz15_8, hcz15_9, hcz15_10, hcz15_11, hcz15_12, hcz15_13⟩ := blk_cs14 BK305.out; obtain ⟨hfz15_0, hfz15_1, hfz15_2, hfz15_3, hfz15_4, hfz15_5, hfz15_6, hfz15_7, hfz15_8, hfz15_9, hfz15_10, hfz15_11, hfz15_12, hfz15_13⟩ := blk_fs14 BK305.out) | ((with_reducible refine gate_callee (f := 49) rfl ?_); refine goesL_ (some 19) rfl rfl Tryz.func49 (by kernel_rfl) rfl #[.agg #[.slice A0_0 l0_0.length c0_0, .slice A0_1 l0_1.length c0_1, .slice A0_2 l0_2.length c0_2], .agg #[.int .i64 a1_0, .int .i64 a1_1, .int .i64 a1_2, .int .i64 a1_3, .int .i64 a1_4, .int .i64 a1_5, .int .i64 a1_6, .slice A1_7 l1_7.length c1_7, .slice A1_8 l1_8.length c1_8, .slice A1_9 l1_9.length c1_9, .slice A1_10 l1_10.length c1_10, .slice A1_11 l1_11.length c1_11, .slice A1_12 l1_12.length c1_12, .int .i64 a1_13], .slice A2 l2.length c2] rfl hgl ?_; (with_reducible refine (measure_dutyValues.calls k _ _ l0_0 _ _ l0_1 _ _ l0_2 a1_0 a1_1 a1_2 a1_3 a1_4 a1_5 a1_6 _ _ l1_7 _ _ l1_8 _ _ l1_9 _ _ l1_10 _ _ l1_11 _ _ l1_12 a1_13 _ _ l2 t307 _ ?side1 ?side2 ?side3 ?side4 ?side5 ?side6 ?side7 ?side8 ?side9 ?side10 ?side11 ?side12 ?side13 ?side14 ?side15 ?side16 ?side17 ?side18 ?side19 ?side20 A6.out).mono ?_); (case side1 => exact Kd.C_below HR0_0.out hbk); (case side2 => exact HC0_0.out); (case side3 => exact Kd.C_below HR0_1.out hbk); (case side4 => exact HC0_1.out); (case side5 => exact Kd.C_below HR0_2.out hbk); (case side6 => exact HC0_2.out); (case side7 => exact Kd.C_below HR1_7.out hbk); (case side8 => exact HC1_7.out); (case side9 => exact Kd.C_below HR1_8.out hbk); (case side10 => exact HC1_8.out); (case side11 => exact Kd.C_below HR1_9.out hbk); (case side12 => exact HC1_9.out); (case side13 => exact Kd.C_below HR1_10.out hbk); (case side14 => exact HC1_10.out); (case side15 => exact Kd.C_below HR1_11.out hbk); (case side16 => exact HC1_11.out); (case side17 => exact Kd.C_below HR1_12.out hbk); (case side18 => exact HC1_12.out); (case side19 => exact Kd.C_below HR2.out hbk); (case side20 => exact HC2.out); rintro e w16 ⟨v308, rfl, ho0, hb⟩; refine ⟨_, rfl, ?_⟩; have n0_ := Aside0.mk (Kd.R_lower ho0 (below_size hbk)); have n1_ := Aside0.mk (blk_belowB BK304.out hb); have n2_ := Aside0.mk (blk_belowB BK305.out hb); have n3_ := Aside0.mk (below_step hbk hb); clear BK304; clear BK305; clear HB; have HO309 := n0_; have BK304 := n1_; have BK305 := n2_; have HB := n3_; clear n0_ n1_ n2_ n3_; (try clear hb); (try clear hb2); (try clear hk); (try clear hi); (try clear ho0); obtain ⟨Ao17, co17, eo17⟩ := Kd.R_slice HO309.out; subst eo17) | ((with_reducible refine gate_callee (f := 48) rfl ?_); refine goesL_ (some 20) rfl rfl Tryz.func48 (by kernel_rfl) rfl #[.int .i64 1, .slice Ao17 t307.length co17] rfl hgl ?_; (with_reducible refine (measure_list.calls (hGL0 := ?sideGL) k 1 _ _ t307 t310 _ ?side1 ?side2 A7.out).mono ?_); (case sideGL => exact gl_below HGL.out hbk); (case side1 => repeat (first | exact (Kd.R_reads' HO309.out).2.2 | (with_reducible refine Kd.C_alloc ?_ _) | (with_reducible refine Kd.C_drewN ?_ _) | (with_reducible refine Kd.C_drew ?_))); (case side2 => exact (Kd.R_reads' HO309.out).2.1); rintro e w18 ⟨v311, rfl, ho0, hb⟩; refine ⟨_, rfl, ?_⟩; have n0_ := Aside0.mk (R_belowB HO309.out hb); have n1_ := Aside0.mk (Kd.R_lower ho0 (below_size hbk)); have n2_ := Aside0.mk (blk_belowB BK304.out hb); have n3_ := Aside0.mk (blk_belowB BK305.out hb); have n4_ := Aside0.mk (below_step hbk hb); clear HO309; clear BK304; clear BK305; clear HB; have HO309 := n0_; have HO312 := n1_; have BK304 := n2_; have BK305 := n3_; have HB := n4_; clear n0_ n1_ n2_ n3_ n4_; (try clear hb); (try clear hb2); (try clear hk); (try clear hi); (try clear ho0)))
  go_ret2
  exact ⟨_, hrf, by (with_reducible repeat (first | apply Kd.R_alloc | apply Kd.R_drewN | apply Kd.R_drew)); exact HO312.out, hbk⟩
 ·rw [if_neg c5] at H
  have c5b0 : (t306 == 0) = false := beq_eq_false_iff_ne.mpr c5
  have c5b1 : (t306 != 0) = true := bne_iff_ne.mpr c5
  simp only [Option.some.injEq, Prod.mk.injEq] at H
  obtain ⟨rfl, rfl⟩ := H
  go_enter Tryz.func18, Tryz.ntmps18
  go_wp2_with (first | ((with_reducible refine gate_dst (N := 3) rfl ?_); refine box_event ?hg (N := 3) ?hd (cs := #[.slice A0_0 l0_0.length c0_0, .slice A0_1 l0_1.length c0_1, .slice A0_2 l0_2.length c0_2]) (t := 32) ?hr ?_; (case hd => rfl); (case hg => rfl); (case hr => first | (go_simp; done) | (go_simp; rfl)); intro gb304 hg w19 hbox hb; have BK304 := Aside0.mk hbox; have GE304 := Aside0.mk ((by rw [hg]; exact (below_size hbk) : w.heap.size ≤ gb304)); replace HB := Aside0.mk (below_step hbk hb); clear hb hbox hg) | ((with_reducible refine gate_dst (N := 4) rfl ?_); refine box_event ?hg (N := 4) ?hd (cs := #[.int .i64 a1_0, .int .i64 a1_1, .int .i64 a1_2, .int .i64 a1_3, .int .i64 a1_4, .int .i64 a1_5, .int .i64 a1_6, .slice A1_7 l1_7.length c1_7, .slice A1_8 l1_8.length c1_8, .slice A1_9 l1_9.length c1_9, .slice A1_10 l1_10.length c1_10, .slice A1_11 l1_11.length c1_11, .slice A1_12 l1_12.length c1_12, .int .i64 a1_13]) (t := 40) ?hr ?_; (case hd => rfl); (case hg => rfl); (case hr => first | (go_simp; done) | (go_simp; rfl)); intro gb305 hg w20 hbox hb; have BK305 := Aside0.mk hbox; have GE305 := Aside0.mk ((by rw [hg]; exact (below_size hbk) : w.heap.size ≤ gb305)); have NB304_305 := Aside0.mk ((by rw [hg]; exact Nat.ne_of_lt (blk_ltB BK304.out) : gb304 ≠ gb305)); have NB305_304 := Aside0.mk ((by rw [hg]; exact Nat.ne_of_gt (blk_ltB BK304.out) : gb305 ≠ gb304)); replace BK304 := Aside0.mk (blk_belowB BK304.out hb); replace HB := Aside0.mk (below_step hbk hb); clear hb hbox hg; have hnb21 := NB304_305.out; have hnc21 := NB305_304.out; obtain ⟨hcz22_0, hcz22_1, hcz22_2⟩ := blk_cs3 BK304.out; obtain ⟨hfz22_0, hfz22_1, hfz22_2⟩ := blk_fs3 BK304.out; obtain ⟨hcz23_0, hcz23_1, hcz23_2, hcz23_3, hcz23_4, hcz23_5, hcz23_6, hcz23_7, hcz23_8, hcz23_9, hcz23_10, hcz23_11, hcz23_12, hcz23_13⟩ := blk_cs14 BK305.out; obtain ⟨hfz23_0, hfz23_1, hfz23_2, hfz23_3, hfz23_4, hfz23_5, hfz23_6, hfz23_7, hfz23_8, hfz23_9, hfz23_10, hfz23_11, hfz23_12, hfz23_13⟩ := blk_fs14 BK305.out) | ((with_reducible refine gate_callee (f := 47) rfl ?_); refine goesL_ (some 12) rfl rfl Tryz.func47 (by kernel_rfl) rfl #[.agg #[.slice A0_0 l0_0.length c0_0, .slice A0_1 l0_1.length c0_1, .slice A0_2 l0_2.length c0_2], .agg #[.int .i64 a1_0, .int .i64 a1_1, .int .i64 a1_2, .int .i64 a1_3, .int .i64 a1_4, .int .i64 a1_5, .int .i64 a1_6, .slice A1_7 l1_7.length c1_7, .slice A1_8 l1_8.length c1_8, .slice A1_9 l1_9.length c1_9, .slice A1_10 l1_10.length c1_10, .slice A1_11 l1_11.length c1_11, .slice A1_12 l1_12.length c1_12, .int .i64 a1_13], .slice A2 l2.length c2] rfl hgl ?_; (with_reducible refine (measure_DutyStructure.calls k _ _ l0_0 _ _ l0_1 _ _ l0_2 a1_0 a1_1 a1_2 a1_3 a1_4 a1_5 a1_6 _ _ l1_7 _ _ l1_8 _ _ l1_9 _ _ l1_10 _ _ l1_11 _ _ l1_12 a1_13 _ _ l2 t306 _ ?side1 ?side2 ?side3 ?side4 ?side5 ?side6 ?side7 ?side8 ?side9 ?side10 ?side11 ?side12 ?side13 ?side14 ?side15 ?side16 ?side17 ?side18 ?side19 ?side20 A4.out).mono ?_); (case side1 => exact Kd.C_below HR0_0.out hbk); (case side2 => exact HC0_0.out); (case side3 => exact Kd.C_below HR0_1.out hbk); (case side4 => exact HC0_1.out); (case side5 => exact Kd.C_below HR0_2.out hbk); (case side6 => exact HC0_2.out); (case side7 => exact Kd.C_below HR1_7.out hbk); (case side8 => exact HC1_7.out); (case side9 => exact Kd.C_below HR1_8.out hbk); (case side10 => exact HC1_8.out); (case side11 => exact Kd.C_below HR1_9.out hbk); (case side12 => exact HC1_9.out); (case side13 => exact Kd.C_below HR1_10.out hbk); (case side14 => exact HC1_10.out); (case side15 => exact Kd.C_below HR1_11.out hbk); (case side16 => exact HC1_11.out); (case side17 => exact Kd.C_below HR1_12.out hbk); (case side18 => exact HC1_12.out); (case side19 => exact Kd.C_below HR2.out hbk); (case side20 => exact HC2.out); rintro e w24 ⟨rfl, hb⟩; refine ⟨_, rfl, ?_⟩; have n0_ := Aside0.mk (blk_belowB BK304.out hb); have n1_ := Aside0.mk (blk_belowB BK305.out hb); have n2_ := Aside0.mk (below_step hbk hb); clear BK304; clear BK305; clear HB; have BK304 := n0_; have BK305 := n1_; have HB := n2_; clear n0_ n1_ n2_; (try clear hb); (try clear hb2); (try clear hk); (try clear hi)))
  go_ret2
  exact ⟨_, hrf, by first | exact Kd.R_nil _ _ _ _ _ | exact Kd.N_nil _ _ _ _ _ | exact Kd.V_nil _ _ _ _ _ | exact Kd.Q_nil _ _ _ _ _ | exact Kd.S_nil _ _ _ _ _, hbk⟩
end Go.Proofs.YtilnppdognejbaaGreatDoor.P
namespace Go.Proofs.YtilnppdognejbaaGreatDoor.P
open Go.RowKit Go.Proofs.YtilnppdognejbaaGreatDoorW.PrintWords Go.Proofs.YtilnppdognejbaaGreatDoorW.PrintLast Go.Proofs.YtilnppdognejbaaGreatDoorW.PrintMore
attribute [local go_sem] max2_int min2_int max_two min_two max_three min_three max_four min_four   -- for this text's walks alone
set_option linter.unusedVariables false
set_option linter.unusedSimpArgs false
def pairinglaw15_awakeP.f (k : Nat)  : Option (Bool) := (pairinglaw15_example.f).bind fun bt313 => ((measure_DutyAttributes.f k bt313.1 bt313.2.1 bt313.2.2.1 bt313.2.2.2.1 bt313.2.2.2.2.1 bt313.2.2.2.2.2.1 bt313.2.2.2.2.2.2.1 bt313.2.2.2.2.2.2.2.1 bt313.2.2.2.2.2.2.2.2.1 bt313.2.2.2.2.2.2.2.2.2.1 bt313.2.2.2.2.2.2.2.2.2.2.1 bt313.2.2.2.2.2.2.2.2.2.2.2.1 bt313.2.2.2.2.2.2.2.2.2.2.2.2.1 bt313.2.2.2.2.2.2.2.2.2.2.2.2.2.1 bt313.2.2.2.2.2.2.2.2.2.2.2.2.2.2.1 bt313.2.2.2.2.2.2.2.2.2.2.2.2.2.2.2.1 bt313.2.2.2.2.2.2.2.2.2.2.2.2.2.2.2.2 (([(⟨0, false⟩ : S50), (⟨1, false⟩ : S50)] : List (S50)))).bind fun bt353 => (if bt353.2 = 0 then ((measure_Attribute.f bt353.1 (⟨#[98, 108, 111, 99, 107]⟩ : ByteArray)).bind fun bt357 => ((measure_Attribute.f bt353.1 (⟨#[115, 112, 97, 110]⟩ : ByteArray)).bind fun bt359 => (if bt357.2 = 0 then (if bt359.2 = 0 then (if bt357.1 = 135 then (some (bt359.1 == 270)) else none) else none) else none))) else none))
set_option maxHeartbeats 8000000 in
set_option maxRecDepth 100000 in
theorem pairinglaw15_awakeP.calls (k : Nat)  (r : Bool) (w : World) (hGL0 : GL w) (h : pairinglaw15_awakeP.f k  = some r) :
  Calls Tryz.prog 6 #[] w fun e w' => e = .returned (.bool r) ∧ Below w.heap.size w w' := by
 have HGL := Aside0.mk hGL0
 clear hGL0
 have hu32 := Tryz.underlying32
 have hu40 := Tryz.underlying40
 have hu50 := Tryz.underlying50
 have HB := Aside0.mk (Below.refl w.heap.size w)
 have H : ((pairinglaw15_example.f).bind fun bt313 => ((measure_DutyAttributes.f k bt313.1 bt313.2.1 bt313.2.2.1 bt313.2.2.2.1 bt313.2.2.2.2.1 bt313.2.2.2.2.2.1 bt313.2.2.2.2.2.2.1 bt313.2.2.2.2.2.2.2.1 bt313.2.2.2.2.2.2.2.2.1 bt313.2.2.2.2.2.2.2.2.2.1 bt313.2.2.2.2.2.2.2.2.2.2.1 bt313.2.2.2.2.2.2.2.2.2.2.2.1 bt313.2.2.2.2.2.2.2.2.2.2.2.2.1 bt313.2.2.2.2.2.2.2.2.2.2.2.2.2.1 bt313.2.2.2.2.2.2.2.2.2.2.2.2.2.2.1 bt313.2.2.2.2.2.2.2.2.2.2.2.2.2.2.2.1 bt313.2.2.2.2.2.2.2.2.2.2.2.2.2.2.2.2 (([(⟨0, false⟩ : S50), (⟨1, false⟩ : S50)] : List (S50)))).bind fun bt353 => (if bt353.2 = 0 then ((measure_Attribute.f bt353.1 (⟨#[98, 108, 111, 99, 107]⟩ : ByteArray)).bind fun bt357 => ((measure_Attribute.f bt353.1 (⟨#[115, 112, 97, 110]⟩ : ByteArray)).bind fun bt359 => (if bt357.2 = 0 then (if bt359.2 = 0 then (if bt357.1 = 135 then (some (bt359.1 == 270)) else none) else none) else none))) else none))) = some r := h
 clear h
 replace H := Option.bind_eq_some_iff.mp H
 obtain ⟨⟨t313, t316, t319, t322, t323, t324, t325, t326, t327, t328, t329, t332, t335, t338, t341, t344, t347⟩, A10, H⟩ := H
 replace H : ((measure_DutyAttributes.f k t313 t316 t319 t322 t323 t324 t325 t326 t327 t328 t329 t332 t335 t338 t341 t344 t347 (([(⟨0, false⟩ : S50), (⟨1, false⟩ : S50)] : List (S50)))).bind fun bt353 => (if bt353.2 = 0 then ((measure_Attribute.f bt353.1 (⟨#[98, 108, 111, 99, 107]⟩ : ByteArray)).bind fun bt357 => ((measure_Attribute.f bt353.1 (⟨#[115, 112, 97, 110]⟩ : ByteArray)).bind fun bt359 => (if bt357.2 = 0 then (if bt359.2 = 0 then (if bt357.1 = 135 then (some (bt359.1 == 270)) else none) else none) else none))) else none)) = some r := H
 have A1 := Aside0.mk A10
 clear A10
 obtain ⟨y350, hy350⟩ : ∃ y_ : List (S50), y_ = (([(⟨0, false⟩ : S50), (⟨1, false⟩ : S50)] : List (S50))) := ⟨_, rfl⟩
 replace H : ((measure_DutyAttributes.f k t313 t316 t319 t322 t323 t324 t325 t326 t327 t328 t329 t332 t335 t338 t341 t344 t347 y350).bind fun bt353 => (if bt353.2 = 0 then ((measure_Attribute.f bt353.1 (⟨#[98, 108, 111, 99, 107]⟩ : ByteArray)).bind fun bt357 => ((measure_Attribute.f bt353.1 (⟨#[115, 112, 97, 110]⟩ : ByteArray)).bind fun bt359 => (if bt357.2 = 0 then (if bt359.2 = 0 then (if bt357.1 = 135 then (some (bt359.1 == 270)) else none) else none) else none))) else none)) = some r := by first | (rw [hy350]; with_reducible exact H) | (have H2_ := (Option.bind_some _ _).symm.trans H; rw [hy350]; with_reducible exact H2_) | (have H2_ := (Option.bind_some _ _).symm.trans H; with_reducible exact H2_) | with_reducible exact H | (rw [hy350]; exact H) | exact H
 have Ny350 := Aside0.mk hy350
 clear hy350
 replace H := Option.bind_eq_some_iff.mp H
 obtain ⟨⟨t353, t356⟩, A20, H⟩ := H
 replace H : (if t356 = 0 then ((measure_Attribute.f t353 (⟨#[98, 108, 111, 99, 107]⟩ : ByteArray)).bind fun bt357 => ((measure_Attribute.f t353 (⟨#[115, 112, 97, 110]⟩ : ByteArray)).bind fun bt359 => (if bt357.2 = 0 then (if bt359.2 = 0 then (if bt357.1 = 135 then (some (bt359.1 == 270)) else none) else none) else none))) else none) = some r := H
 have A2 := Aside0.mk A20
 clear A20
 by_cases c3 : t356 = 0
 ·rw [if_pos c3] at H
  have c3b0 : (t356 == 0) = true := beq_iff_eq.mpr c3
  have c3b1 : (t356 != 0) = false := bne_eq_false_iff_eq.mpr c3
  clear c3
  replace H := Option.bind_eq_some_iff.mp H
  obtain ⟨⟨t357, t358⟩, A40, H⟩ := H
  replace H : ((measure_Attribute.f t353 (⟨#[115, 112, 97, 110]⟩ : ByteArray)).bind fun bt359 => (if t358 = 0 then (if bt359.2 = 0 then (if t357 = 135 then (some (bt359.1 == 270)) else none) else none) else none)) = some r := H
  have A4 := Aside0.mk A40
  clear A40
  replace H := Option.bind_eq_some_iff.mp H
  obtain ⟨⟨t359, t360⟩, A50, H⟩ := H
  replace H : (if t358 = 0 then (if t360 = 0 then (if t357 = 135 then (some (t359 == 270)) else none) else none) else none) = some r := H
  have A5 := Aside0.mk A50
  clear A50
  by_cases c6 : t358 = 0
  ·rw [if_pos c6] at H
   have c6b0 : (t358 == 0) = true := beq_iff_eq.mpr c6
   have c6b1 : (t358 != 0) = false := bne_eq_false_iff_eq.mpr c6
   clear c6
   by_cases c7 : t360 = 0
   ·rw [if_pos c7] at H
    have c7b0 : (t360 == 0) = true := beq_iff_eq.mpr c7
    have c7b1 : (t360 != 0) = false := bne_eq_false_iff_eq.mpr c7
    clear c7
    by_cases c8 : t357 = 135
    ·rw [if_pos c8] at H
     have c8b0 : (t357 == 135) = true := beq_iff_eq.mpr c8
     have c8b1 : (t357 != 135) = false := bne_eq_false_iff_eq.mpr c8
     clear c8
     obtain rfl := Option.some.inj H
     go_enter Tryz.func6, Tryz.ntmps6
     go_wp2_with (first | ((with_reducible refine gate_callee (f := 17) rfl ?_); refine goesL_ (some 10) rfl rfl Tryz.func17 (by kernel_rfl) rfl #[] rfl hgl ?_; (with_reducible refine (pairinglaw15_example.calls  t313 t316 t319 t322 t323 t324 t325 t326 t327 t328 t329 t332 t335 t338 t341 t344 t347 _ A1.out).mono ?_); rintro e w9 ⟨v314, v317, v320, v330, v333, v336, v339, v342, v345, rfl, ho0, ho1, ho2, ho3, ho4, ho5, ho6, ho7, ho8, hb⟩; refine ⟨_, rfl, ?_⟩; have HO315 := Aside0.mk (Kd.N_lower (Kd.N_mono (ok' := fun k_ => True) ho0 (fun _ _ => trivial)) (below_size hbk)); have HO318 := Aside0.mk (Kd.R_lower (Kd.R_mono (ok' := fun k_ => True) ho1 (fun _ hk_ => trivial)) (below_size hbk)); have HO321 := Aside0.mk (Kd.R_lower (Kd.R_mono (ok' := fun k_ => True) ho2 (fun _ hk_ => trivial)) (below_size hbk)); have HO331 := Aside0.mk (Kd.N_lower (Kd.N_mono (ok' := fun k_ => True) ho3 (fun _ _ => trivial)) (below_size hbk)); have HO334 := Aside0.mk (Kd.N_lower (Kd.N_mono (ok' := fun k_ => True) ho4 (fun _ _ => trivial)) (below_size hbk)); have HO337 := Aside0.mk (Kd.N_lower (Kd.N_mono (ok' := fun k_ => True) ho5 (fun _ _ => trivial)) (below_size hbk)); have HO340 := Aside0.mk (Kd.N_lower (Kd.N_mono (ok' := fun k_ => True) ho6 (fun _ _ => trivial)) (below_size hbk)); have HO343 := Aside0.mk (Kd.R_lower (Kd.R_mono (ok' := fun k_ => True) ho7 (fun _ hk_ => trivial)) (below_size hbk)); have HO346 := Aside0.mk (Kd.R_lower (Kd.R_mono (ok' := fun k_ => True) ho8 (fun _ hk_ => trivial)) (below_size hbk)); replace HB := Aside0.mk (below_step hbk hb); (try clear hb); (try clear hb2); (try clear hk); (try clear hi); (try clear ho0); (try clear ho1); (try clear ho2); (try clear ho3); (try clear ho4); (try clear ho5); (try clear ho6); (try clear ho7); (try clear ho8)) | ((with_reducible refine gate_dst (N := 1) rfl ?_); refine box_event ?hg (N := 1) ?hd (cs := #[.slice none 0 0, .slice none 0 0, .slice none 0 0]) (t := 32) ?hr ?_; (case hd => rfl); (case hg => rfl); (case hr => first | (go_simp; done) | (go_simp; rfl)); intro gb348 hg w10 hbox hb; have BK348 := Aside0.mk hbox; have GE348 := Aside0.mk ((by rw [hg]; exact (below_size hbk) : w.heap.size ≤ gb348)); replace HO315 := Aside0.mk (Kd.N_below (Kd.N_elderB (by (with_reducible repeat (first | apply Kd.N_alloc | apply Kd.N_drewN | apply Kd.N_drew)); exact HO315.out) gb348 (Nat.le_of_eq hg.symm)) hb); replace HO318 := Aside0.mk (R_belowB HO318.out hb); replace HO321 := Aside0.mk (R_belowB HO321.out hb); replace HO331 := Aside0.mk (Kd.N_below (Kd.N_elderB (by (with_reducible repeat (first | apply Kd.N_alloc | apply Kd.N_drewN | apply Kd.N_drew)); exact HO331.out) gb348 (Nat.le_of_eq hg.symm)) hb); replace HO334 := Aside0.mk (Kd.N_below (Kd.N_elderB (by (with_reducible repeat (first | apply Kd.N_alloc | apply Kd.N_drewN | apply Kd.N_drew)); exact HO334.out) gb348 (Nat.le_of_eq hg.symm)) hb); replace HO337 := Aside0.mk (Kd.N_below (Kd.N_elderB (by (with_reducible repeat (first | apply Kd.N_alloc | apply Kd.N_drewN | apply Kd.N_drew)); exact HO337.out) gb348 (Nat.le_of_eq hg.symm)) hb); replace HO340 := Aside0.mk (Kd.N_below (Kd.N_elderB (by (with_reducible repeat (first | apply Kd.N_alloc | apply Kd.N_drewN | apply Kd.N_drew)); exact HO340.out) gb348 (Nat.le_of_eq hg.symm)) hb); replace HO343 := Aside0.mk (R_belowB HO343.out hb); replace HO346 := Aside0.mk (R_belowB HO346.out hb); replace HB := Aside0.mk (below_step hbk hb); clear hb hbox hg) | ((with_reducible refine gate_dst (N := 2) rfl ?_); refine box_event ?hg (N := 2) ?hd (cs := #[.int .i64 0, .int .i64 0, .int .i64 0, .int .i64 0, .int .i64 0, .int .i64 0, .int .i64 0, .slice none 0 0, .slice none 0 0, .slice none 0 0, .slice none 0 0, .slice none 0 0, .slice none 0 0, .int .i64 0]) (t := 40) ?hr ?_; (case hd => rfl); (case hg => rfl); (case hr => first | (go_simp; done) | (go_simp; rfl)); intro gb349 hg w11 hbox hb; have BK349 := Aside0.mk hbox; have GE349 := Aside0.mk ((by rw [hg]; exact (below_size hbk) : w.heap.size ≤ gb349)); have NB348_349 := Aside0.mk ((by rw [hg]; exact Nat.ne_of_lt (blk_ltB BK348.out) : gb348 ≠ gb349)); have NB349_348 := Aside0.mk ((by rw [hg]; exact Nat.ne_of_gt (blk_ltB BK348.out) : gb349 ≠ gb348)); replace HO315 := Aside0.mk (Kd.N_below (Kd.N_elderB (by (with_reducible repeat (first | apply Kd.N_alloc | apply Kd.N_drewN | apply Kd.N_drew)); exact HO315.out) gb349 (Nat.le_of_eq hg.symm)) hb); replace HO318 := Aside0.mk (R_belowB HO318.out hb); replace HO321 := Aside0.mk (R_belowB HO321.out hb); replace HO331 := Aside0.mk (Kd.N_below (Kd.N_elderB (by (with_reducible repeat (first | apply Kd.N_alloc | apply Kd.N_drewN | apply Kd.N_drew)); exact HO331.out) gb349 (Nat.le_of_eq hg.symm)) hb); replace HO334 := Aside0.mk (Kd.N_below (Kd.N_elderB (by (with_reducible repeat (first | apply Kd.N_alloc | apply Kd.N_drewN | apply Kd.N_drew)); exact HO334.out) gb349 (Nat.le_of_eq hg.symm)) hb); replace HO337 := Aside0.mk (Kd.N_below (Kd.N_elderB (by (with_reducible repeat (first | apply Kd.N_alloc | apply Kd.N_drewN | apply Kd.N_drew)); exact HO337.out) gb349 (Nat.le_of_eq hg.symm)) hb); replace HO340 := Aside0.mk (Kd.N_below (Kd.N_elderB (by (with_reducible repeat (first | apply Kd.N_alloc | apply Kd.N_drewN | apply Kd.N_drew)); exact HO340.out) gb349 (Nat.le_of_eq hg.symm)) hb); replace HO343 := Aside0.mk (R_belowB HO343.out hb); replace HO346 := Aside0.mk (R_belowB HO346.out hb); replace BK348 := Aside0.mk (blk_belowB BK348.out hb); replace HB := Aside0.mk (below_step hbk hb); clear hb hbox hg; obtain ⟨Ao12, co12, eo12⟩ := Kd.N_slice HO315.out; subst eo12; have hnb13 := NB348_349.out; have hnc13 := NB349_348.out; obtain ⟨hcz14_0, hcz14_1, hcz14_2⟩ := blk_cs3 BK348.out; obtain ⟨hfz14_0, hfz14_1, hfz14_2⟩ := blk_fs3 BK348.out; obtain ⟨Ao15, co15, eo15⟩ := Kd.R_slice HO318.out; subst eo15; obtain ⟨Ao16, co16, eo16⟩ := Kd.R_slice HO321.out; subst eo16; obtain ⟨hcz17_0, hcz17_1, hcz17_2, hcz17_3, hcz17_4, hcz17_5, hcz17_6, hcz17_7, hcz17_8, hcz17_9, hcz17_10, hcz17_11, hcz17_12, hcz17_13⟩ := blk_cs14 BK349.out; obtain ⟨hfz17_0, hfz17_1, hfz17_2, hfz17_3, hfz17_4, hfz17_5, hfz17_6, hfz17_7, hfz17_8, hfz17_9, hfz17_10, hfz17_11, hfz17_12, hfz17_13⟩ := blk_fs14 BK349.out; obtain ⟨Ao18, co18, eo18⟩ := Kd.N_slice HO331.out; subst eo18; obtain ⟨Ao19, co19, eo19⟩ := Kd.N_slice HO334.out; subst eo19; obtain ⟨Ao20, co20, eo20⟩ := Kd.N_slice HO337.out; subst eo20; obtain ⟨Ao21, co21, eo21⟩ := Kd.N_slice HO340.out; subst eo21; obtain ⟨Ao22, co22, eo22⟩ := Kd.R_slice HO343.out; subst eo22; obtain ⟨Ao23, co23, eo23⟩ := Kd.R_slice HO346.out; subst eo23) | ((with_reducible refine gate_dst (N := 18) rfl ?_); refine Kd.R_lit k50 _ 50 ?hg (N := 18) ?hd (xs := ([(⟨0, false⟩ : S50), (⟨1, false⟩ : S50)] : List (S50))) (inner := [.int .i64 0, .bool false, .int .i64 1, .bool false]) (ok := fun _ => True) (okp := fun _ => True) ?hr ?hp (fun _ hk => hk) trivial (Below.refl _ _) (Nat.le_refl _) (by simp) ?_; (case hd => rfl); (case hg => rfl); (case hr => first | (go_simp; done) | (go_simp; rfl)); (case hp => exact (Reps.c2 (show Kd.M k50 _ _ _ (⟨0, false⟩ : S50) [.int .i64 0, .bool false] from (k50_mkM _ _ _ (⟨0, false⟩ : S50) )) (Reps.c2 (show Kd.M k50 _ _ _ (⟨1, false⟩ : S50) [.int .i64 1, .bool false] from (k50_mkM _ _ _ (⟨1, false⟩ : S50) )) (Reps.none _ _)))); intro v351 w24 ho25 hb hg_ hnew_; clear hg_ hnew_; (first | rw [← Ny350.out] at ho25 | (simp only [Int.reduceToNat] at ho25; rw [← Ny350.out] at ho25)); have HO352 := Aside0.mk (Kd.R_lower ho25 (below_size hbk)); replace HO315 := Aside0.mk (Kd.N_elder' (by (with_reducible repeat (first | apply Kd.N_alloc | apply Kd.N_drewN | apply Kd.N_drew)); exact (Kd.N_mono (Kd.N_mono (Kd.N_far (p := ⟨gb349, 13, none⟩) (Kd.N_far (p := ⟨gb349, 12, none⟩) (Kd.N_far (p := ⟨gb349, 11, none⟩) (Kd.N_far (p := ⟨gb349, 10, none⟩) (Kd.N_far (p := ⟨gb349, 9, none⟩) (Kd.N_far (p := ⟨gb349, 8, none⟩) (Kd.N_far (p := ⟨gb349, 7, none⟩) (Kd.N_far (p := ⟨gb349, 6, none⟩) (Kd.N_far (p := ⟨gb349, 5, none⟩) (Kd.N_far (p := ⟨gb349, 4, none⟩) (Kd.N_far (p := ⟨gb349, 3, none⟩) (Kd.N_far (p := ⟨gb349, 2, none⟩) (Kd.N_far (p := ⟨gb349, 1, none⟩) (Kd.N_far (p := ⟨gb349, 0, none⟩) (Kd.N_far (p := ⟨gb348, 2, none⟩) (Kd.N_far (p := ⟨gb348, 1, none⟩) (Kd.N_far (p := ⟨gb348, 0, none⟩) (Kd.N_mono (Kd.N_mono HO315.out (fun k_ hk => (⟨hk, hk.1.2⟩ : _ ∧ k_ ≠ gb348))) (fun k_ hk => (⟨hk, hk.1.2⟩ : _ ∧ k_ ≠ gb349))) (fun _ hk => hk.1.2) (.slice Ao12 t313.length co12)) (fun _ hk => hk.1.2) (.slice Ao15 t316.length co15)) (fun _ hk => hk.1.2) (.slice Ao16 t319.length co16)) (fun _ hk => hk.2) (.int .i64 t322)) (fun _ hk => hk.2) (.int .i64 t323)) (fun _ hk => hk.2) (.int .i64 t324)) (fun _ hk => hk.2) (.int .i64 t325)) (fun _ hk => hk.2) (.int .i64 t326)) (fun _ hk => hk.2) (.int .i64 t327)) (fun _ hk => hk.2) (.int .i64 t328)) (fun _ hk => hk.2) (.slice Ao18 t329.length co18)) (fun _ hk => hk.2) (.slice Ao19 t332.length co19)) (fun _ hk => hk.2) (.slice Ao20 t335.length co20)) (fun _ hk => hk.2) (.slice Ao21 t338.length co21)) (fun _ hk => hk.2) (.slice Ao22 t341.length co22)) (fun _ hk => hk.2) (.slice Ao23 t344.length co23)) (fun _ hk => hk.2) (.int .i64 t347)) (fun _ h_ => h_.1)) (fun _ h_ => h_.1))) (Kd.R_base ho25) hb); replace HO318 := Aside0.mk (Kd.R_below (by (with_reducible repeat (first | apply Kd.R_alloc | apply Kd.R_drewN | apply Kd.R_drew)); exact (Kd.R_mono (Kd.R_mono (Kd.R_far (p := ⟨gb349, 13, none⟩) (Kd.R_far (p := ⟨gb349, 12, none⟩) (Kd.R_far (p := ⟨gb349, 11, none⟩) (Kd.R_far (p := ⟨gb349, 10, none⟩) (Kd.R_far (p := ⟨gb349, 9, none⟩) (Kd.R_far (p := ⟨gb349, 8, none⟩) (Kd.R_far (p := ⟨gb349, 7, none⟩) (Kd.R_far (p := ⟨gb349, 6, none⟩) (Kd.R_far (p := ⟨gb349, 5, none⟩) (Kd.R_far (p := ⟨gb349, 4, none⟩) (Kd.R_far (p := ⟨gb349, 3, none⟩) (Kd.R_far (p := ⟨gb349, 2, none⟩) (Kd.R_far (p := ⟨gb349, 1, none⟩) (Kd.R_far (p := ⟨gb349, 0, none⟩) (Kd.R_far (p := ⟨gb348, 2, none⟩) (Kd.R_far (p := ⟨gb348, 1, none⟩) (Kd.R_far (p := ⟨gb348, 0, none⟩) (Kd.R_types (Kd.R_types HO318.out BK348.out (by decide)) BK349.out (by decide)) (fun _ hk => hk.1.2) (.slice Ao12 t313.length co12)) (fun _ hk => hk.1.2) (.slice Ao15 t316.length co15)) (fun _ hk => hk.1.2) (.slice Ao16 t319.length co16)) (fun _ hk => hk.2) (.int .i64 t322)) (fun _ hk => hk.2) (.int .i64 t323)) (fun _ hk => hk.2) (.int .i64 t324)) (fun _ hk => hk.2) (.int .i64 t325)) (fun _ hk => hk.2) (.int .i64 t326)) (fun _ hk => hk.2) (.int .i64 t327)) (fun _ hk => hk.2) (.int .i64 t328)) (fun _ hk => hk.2) (.slice Ao18 t329.length co18)) (fun _ hk => hk.2) (.slice Ao19 t332.length co19)) (fun _ hk => hk.2) (.slice Ao20 t335.length co20)) (fun _ hk => hk.2) (.slice Ao21 t338.length co21)) (fun _ hk => hk.2) (.slice Ao22 t341.length co22)) (fun _ hk => hk.2) (.slice Ao23 t344.length co23)) (fun _ hk => hk.2) (.int .i64 t347)) (fun _ h_ => h_.1)) (fun _ h_ => h_.1))) hb); replace HO321 := Aside0.mk (Kd.R_below (by (with_reducible repeat (first | apply Kd.R_alloc | apply Kd.R_drewN | apply Kd.R_drew)); exact (Kd.R_mono (Kd.R_mono (Kd.R_far (p := ⟨gb349, 13, none⟩) (Kd.R_far (p := ⟨gb349, 12, none⟩) (Kd.R_far (p := ⟨gb349, 11, none⟩) (Kd.R_far (p := ⟨gb349, 10, none⟩) (Kd.R_far (p := ⟨gb349, 9, none⟩) (Kd.R_far (p := ⟨gb349, 8, none⟩) (Kd.R_far (p := ⟨gb349, 7, none⟩) (Kd.R_far (p := ⟨gb349, 6, none⟩) (Kd.R_far (p := ⟨gb349, 5, none⟩) (Kd.R_far (p := ⟨gb349, 4, none⟩) (Kd.R_far (p := ⟨gb349, 3, none⟩) (Kd.R_far (p := ⟨gb349, 2, none⟩) (Kd.R_far (p := ⟨gb349, 1, none⟩) (Kd.R_far (p := ⟨gb349, 0, none⟩) (Kd.R_far (p := ⟨gb348, 2, none⟩) (Kd.R_far (p := ⟨gb348, 1, none⟩) (Kd.R_far (p := ⟨gb348, 0, none⟩) (Kd.R_types (Kd.R_types HO321.out BK348.out (by decide)) BK349.out (by decide)) (fun _ hk => hk.1.2) (.slice Ao12 t313.length co12)) (fun _ hk => hk.1.2) (.slice Ao15 t316.length co15)) (fun _ hk => hk.1.2) (.slice Ao16 t319.length co16)) (fun _ hk => hk.2) (.int .i64 t322)) (fun _ hk => hk.2) (.int .i64 t323)) (fun _ hk => hk.2) (.int .i64 t324)) (fun _ hk => hk.2) (.int .i64 t325)) (fun _ hk => hk.2) (.int .i64 t326)) (fun _ hk => hk.2) (.int .i64 t327)) (fun _ hk => hk.2) (.int .i64 t328)) (fun _ hk => hk.2) (.slice Ao18 t329.length co18)) (fun _ hk => hk.2) (.slice Ao19 t332.length co19)) (fun _ hk => hk.2) (.slice Ao20 t335.length co20)) (fun _ hk => hk.2) (.slice Ao21 t338.length co21)) (fun _ hk => hk.2) (.slice Ao22 t341.length co22)) (fun _ hk => hk.2) (.slice Ao23 t344.length co23)) (fun _ hk => hk.2) (.int .i64 t347)) (fun _ h_ => h_.1)) (fun _ h_ => h_.1))) hb); replace HO331 := Aside0.mk (Kd.N_elder' (by (with_reducible repeat (first | apply Kd.N_alloc | apply Kd.N_drewN | apply Kd.N_drew)); exact (Kd.N_mono (Kd.N_mono (Kd.N_far (p := ⟨gb349, 13, none⟩) (Kd.N_far (p := ⟨gb349, 12, none⟩) (Kd.N_far (p := ⟨gb349, 11, none⟩) (Kd.N_far (p := ⟨gb349, 10, none⟩) (Kd.N_far (p := ⟨gb349, 9, none⟩) (Kd.N_far (p := ⟨gb349, 8, none⟩) (Kd.N_far (p := ⟨gb349, 7, none⟩) (Kd.N_far (p := ⟨gb349, 6, none⟩) (Kd.N_far (p := ⟨gb349, 5, none⟩) (Kd.N_far (p := ⟨gb349, 4, none⟩) (Kd.N_far (p := ⟨gb349, 3, none⟩) (Kd.N_far (p := ⟨gb349, 2, none⟩) (Kd.N_far (p := ⟨gb349, 1, none⟩) (Kd.N_far (p := ⟨gb349, 0, none⟩) (Kd.N_far (p := ⟨gb348, 2, none⟩) (Kd.N_far (p := ⟨gb348, 1, none⟩) (Kd.N_far (p := ⟨gb348, 0, none⟩) (Kd.N_mono (Kd.N_mono HO331.out (fun k_ hk => (⟨hk, hk.1.2⟩ : _ ∧ k_ ≠ gb348))) (fun k_ hk => (⟨hk, hk.1.2⟩ : _ ∧ k_ ≠ gb349))) (fun _ hk => hk.1.2) (.slice Ao12 t313.length co12)) (fun _ hk => hk.1.2) (.slice Ao15 t316.length co15)) (fun _ hk => hk.1.2) (.slice Ao16 t319.length co16)) (fun _ hk => hk.2) (.int .i64 t322)) (fun _ hk => hk.2) (.int .i64 t323)) (fun _ hk => hk.2) (.int .i64 t324)) (fun _ hk => hk.2) (.int .i64 t325)) (fun _ hk => hk.2) (.int .i64 t326)) (fun _ hk => hk.2) (.int .i64 t327)) (fun _ hk => hk.2) (.int .i64 t328)) (fun _ hk => hk.2) (.slice Ao18 t329.length co18)) (fun _ hk => hk.2) (.slice Ao19 t332.length co19)) (fun _ hk => hk.2) (.slice Ao20 t335.length co20)) (fun _ hk => hk.2) (.slice Ao21 t338.length co21)) (fun _ hk => hk.2) (.slice Ao22 t341.length co22)) (fun _ hk => hk.2) (.slice Ao23 t344.length co23)) (fun _ hk => hk.2) (.int .i64 t347)) (fun _ h_ => h_.1)) (fun _ h_ => h_.1))) (Kd.R_base ho25) hb); replace HO334 := Aside0.mk (Kd.N_elder' (by (with_reducible repeat (first | apply Kd.N_alloc | apply Kd.N_drewN | apply Kd.N_drew)); exact (Kd.N_mono (Kd.N_mono (Kd.N_far (p := ⟨gb349, 13, none⟩) (Kd.N_far (p := ⟨gb349, 12, none⟩) (Kd.N_far (p := ⟨gb349, 11, none⟩) (Kd.N_far (p := ⟨gb349, 10, none⟩) (Kd.N_far (p := ⟨gb349, 9, none⟩) (Kd.N_far (p := ⟨gb349, 8, none⟩) (Kd.N_far (p := ⟨gb349, 7, none⟩) (Kd.N_far (p := ⟨gb349, 6, none⟩) (Kd.N_far (p := ⟨gb349, 5, none⟩) (Kd.N_far (p := ⟨gb349, 4, none⟩) (Kd.N_far (p := ⟨gb349, 3, none⟩) (Kd.N_far (p := ⟨gb349, 2, none⟩) (Kd.N_far (p := ⟨gb349, 1, none⟩) (Kd.N_far (p := ⟨gb349, 0, none⟩) (Kd.N_far (p := ⟨gb348, 2, none⟩) (Kd.N_far (p := ⟨gb348, 1, none⟩) (Kd.N_far (p := ⟨gb348, 0, none⟩) (Kd.N_mono (Kd.N_mono HO334.out (fun k_ hk => (⟨hk, hk.1.2⟩ : _ ∧ k_ ≠ gb348))) (fun k_ hk => (⟨hk, hk.1.2⟩ : _ ∧ k_ ≠ gb349))) (fun _ hk => hk.1.2) (.slice Ao12 t313.length co12)) (fun _ hk => hk.1.2) (.slice Ao15 t316.length co15)) (fun _ hk => hk.1.2) (.slice Ao16 t319.length co16)) (fun _ hk => hk.2) (.int .i64 t322)) (fun _ hk => hk.2) (.int .i64 t323)) (fun _ hk => hk.2) (.int .i64 t324)) (fun _ hk => hk.2) (.int .i64 t325)) (fun _ hk => hk.2) (.int .i64 t326)) (fun _ hk => hk.2) (.int .i64 t327)) (fun _ hk => hk.2) (.int .i64 t328)) (fun _ hk => hk.2) (.slice Ao18 t329.length co18)) (fun _ hk => hk.2) (.slice Ao19 t332.length co19)) (fun _ hk => hk.2) (.slice Ao20 t335.length co20)) (fun _ hk => hk.2) (.slice Ao21 t338.length co21)) (fun _ hk => hk.2) (.slice Ao22 t341.length co22)) (fun _ hk => hk.2) (.slice Ao23 t344.length co23)) (fun _ hk => hk.2) (.int .i64 t347)) (fun _ h_ => h_.1)) (fun _ h_ => h_.1))) (Kd.R_base ho25) hb); replace HO337 := Aside0.mk (Kd.N_elder' (by (with_reducible repeat (first | apply Kd.N_alloc | apply Kd.N_drewN | apply Kd.N_drew)); exact (Kd.N_mono (Kd.N_mono (Kd.N_far (p := ⟨gb349, 13, none⟩) (Kd.N_far (p := ⟨gb349, 12, none⟩) (Kd.N_far (p := ⟨gb349, 11, none⟩) (Kd.N_far (p := ⟨gb349, 10, none⟩) (Kd.N_far (p := ⟨gb349, 9, none⟩) (Kd.N_far (p := ⟨gb349, 8, none⟩) (Kd.N_far (p := ⟨gb349, 7, none⟩) (Kd.N_far (p := ⟨gb349, 6, none⟩) (Kd.N_far (p := ⟨gb349, 5, none⟩) (Kd.N_far (p := ⟨gb349, 4, none⟩) (Kd.N_far (p := ⟨gb349, 3, none⟩) (Kd.N_far (p := ⟨gb349, 2, none⟩) (Kd.N_far (p := ⟨gb349, 1, none⟩) (Kd.N_far (p := ⟨gb349, 0, none⟩) (Kd.N_far (p := ⟨gb348, 2, none⟩) (Kd.N_far (p := ⟨gb348, 1, none⟩) (Kd.N_far (p := ⟨gb348, 0, none⟩) (Kd.N_mono (Kd.N_mono HO337.out (fun k_ hk => (⟨hk, hk.1.2⟩ : _ ∧ k_ ≠ gb348))) (fun k_ hk => (⟨hk, hk.1.2⟩ : _ ∧ k_ ≠ gb349))) (fun _ hk => hk.1.2) (.slice Ao12 t313.length co12)) (fun _ hk => hk.1.2) (.slice Ao15 t316.length co15)) (fun _ hk => hk.1.2) (.slice Ao16 t319.length co16)) (fun _ hk => hk.2) (.int .i64 t322)) (fun _ hk => hk.2) (.int .i64 t323)) (fun _ hk => hk.2) (.int .i64 t324)) (fun _ hk => hk.2) (.int .i64 t325)) (fun _ hk => hk.2) (.int .i64 t326)) (fun _ hk => hk.2) (.int .i64 t327)) (fun _ hk => hk.2) (.int .i64 t328)) (fun _ hk => hk.2) (.slice Ao18 t329.length co18)) (fun _ hk => hk.2) (.slice Ao19 t332.length co19)) (fun _ hk => hk.2) (.slice Ao20 t335.length co20)) (fun _ hk => hk.2) (.slice Ao21 t338.length co21)) (fun _ hk => hk.2) (.slice Ao22 t341.length co22)) (fun _ hk => hk.2) (.slice Ao23 t344.length co23)) (fun _ hk => hk.2) (.int .i64 t347)) (fun _ h_ => h_.1)) (fun _ h_ => h_.1))) (Kd.R_base ho25) hb); replace HO340 := Aside0.mk (Kd.N_elder' (by (with_reducible repeat (first | apply Kd.N_alloc | apply Kd.N_drewN | apply Kd.N_drew)); exact (Kd.N_mono (Kd.N_mono (Kd.N_far (p := ⟨gb349, 13, none⟩) (Kd.N_far (p := ⟨gb349, 12, none⟩) (Kd.N_far (p := ⟨gb349, 11, none⟩) (Kd.N_far (p := ⟨gb349, 10, none⟩) (Kd.N_far (p := ⟨gb349, 9, none⟩) (Kd.N_far (p := ⟨gb349, 8, none⟩) (Kd.N_far (p := ⟨gb349, 7, none⟩) (Kd.N_far (p := ⟨gb349, 6, none⟩) (Kd.N_far (p := ⟨gb349, 5, none⟩) (Kd.N_far (p := ⟨gb349, 4, none⟩) (Kd.N_far (p := ⟨gb349, 3, none⟩) (Kd.N_far (p := ⟨gb349, 2, none⟩) (Kd.N_far (p := ⟨gb349, 1, none⟩) (Kd.N_far (p := ⟨gb349, 0, none⟩) (Kd.N_far (p := ⟨gb348, 2, none⟩) (Kd.N_far (p := ⟨gb348, 1, none⟩) (Kd.N_far (p := ⟨gb348, 0, none⟩) (Kd.N_mono (Kd.N_mono HO340.out (fun k_ hk => (⟨hk, hk.1.2⟩ : _ ∧ k_ ≠ gb348))) (fun k_ hk => (⟨hk, hk.1.2⟩ : _ ∧ k_ ≠ gb349))) (fun _ hk => hk.1.2) (.slice Ao12 t313.length co12)) (fun _ hk => hk.1.2) (.slice Ao15 t316.length co15)) (fun _ hk => hk.1.2) (.slice Ao16 t319.length co16)) (fun _ hk => hk.2) (.int .i64 t322)) (fun _ hk => hk.2) (.int .i64 t323)) (fun _ hk => hk.2) (.int .i64 t324)) (fun _ hk => hk.2) (.int .i64 t325)) (fun _ hk => hk.2) (.int .i64 t326)) (fun _ hk => hk.2) (.int .i64 t327)) (fun _ hk => hk.2) (.int .i64 t328)) (fun _ hk => hk.2) (.slice Ao18 t329.length co18)) (fun _ hk => hk.2) (.slice Ao19 t332.length co19)) (fun _ hk => hk.2) (.slice Ao20 t335.length co20)) (fun _ hk => hk.2) (.slice Ao21 t338.length co21)) (fun _ hk => hk.2) (.slice Ao22 t341.length co22)) (fun _ hk => hk.2) (.slice Ao23 t344.length co23)) (fun _ hk => hk.2) (.int .i64 t347)) (fun _ h_ => h_.1)) (fun _ h_ => h_.1))) (Kd.R_base ho25) hb); replace HO343 := Aside0.mk (Kd.R_below (by (with_reducible repeat (first | apply Kd.R_alloc | apply Kd.R_drewN | apply Kd.R_drew)); exact (Kd.R_mono (Kd.R_mono (Kd.R_far (p := ⟨gb349, 13, none⟩) (Kd.R_far (p := ⟨gb349, 12, none⟩) (Kd.R_far (p := ⟨gb349, 11, none⟩) (Kd.R_far (p := ⟨gb349, 10, none⟩) (Kd.R_far (p := ⟨gb349, 9, none⟩) (Kd.R_far (p := ⟨gb349, 8, none⟩) (Kd.R_far (p := ⟨gb349, 7, none⟩) (Kd.R_far (p := ⟨gb349, 6, none⟩) (Kd.R_far (p := ⟨gb349, 5, none⟩) (Kd.R_far (p := ⟨gb349, 4, none⟩) (Kd.R_far (p := ⟨gb349, 3, none⟩) (Kd.R_far (p := ⟨gb349, 2, none⟩) (Kd.R_far (p := ⟨gb349, 1, none⟩) (Kd.R_far (p := ⟨gb349, 0, none⟩) (Kd.R_far (p := ⟨gb348, 2, none⟩) (Kd.R_far (p := ⟨gb348, 1, none⟩) (Kd.R_far (p := ⟨gb348, 0, none⟩) (Kd.R_types (Kd.R_types HO343.out BK348.out (by decide)) BK349.out (by decide)) (fun _ hk => hk.1.2) (.slice Ao12 t313.length co12)) (fun _ hk => hk.1.2) (.slice Ao15 t316.length co15)) (fun _ hk => hk.1.2) (.slice Ao16 t319.length co16)) (fun _ hk => hk.2) (.int .i64 t322)) (fun _ hk => hk.2) (.int .i64 t323)) (fun _ hk => hk.2) (.int .i64 t324)) (fun _ hk => hk.2) (.int .i64 t325)) (fun _ hk => hk.2) (.int .i64 t326)) (fun _ hk => hk.2) (.int .i64 t327)) (fun _ hk => hk.2) (.int .i64 t328)) (fun _ hk => hk.2) (.slice Ao18 t329.length co18)) (fun _ hk => hk.2) (.slice Ao19 t332.length co19)) (fun _ hk => hk.2) (.slice Ao20 t335.length co20)) (fun _ hk => hk.2) (.slice Ao21 t338.length co21)) (fun _ hk => hk.2) (.slice Ao22 t341.length co22)) (fun _ hk => hk.2) (.slice Ao23 t344.length co23)) (fun _ hk => hk.2) (.int .i64 t347)) (fun _ h_ => h_.1)) (fun _ h_ => h_.1))) hb); replace HO346 := Aside0.mk (Kd.R_below (by (with_reducible repeat (first | apply Kd.R_alloc | apply Kd.R_drewN | apply Kd.R_drew)); exact (Kd.R_mono (Kd.R_mono (Kd.R_far (p := ⟨gb349, 13, none⟩) (Kd.R_far (p := ⟨gb349, 12, none⟩) (Kd.R_far (p := ⟨gb349, 11, none⟩) (Kd.R_far (p := ⟨gb349, 10, none⟩) (Kd.R_far (p := ⟨gb349, 9, none⟩) (Kd.R_far (p := ⟨gb349, 8, none⟩) (Kd.R_far (p := ⟨gb349, 7, none⟩) (Kd.R_far (p := ⟨gb349, 6, none⟩) (Kd.R_far (p := ⟨gb349, 5, none⟩) (Kd.R_far (p := ⟨gb349, 4, none⟩) (Kd.R_far (p := ⟨gb349, 3, none⟩) (Kd.R_far (p := ⟨gb349, 2, none⟩) (Kd.R_far (p := ⟨gb349, 1, none⟩) (Kd.R_far (p := ⟨gb349, 0, none⟩) (Kd.R_far (p := ⟨gb348, 2, none⟩) (Kd.R_far (p := ⟨gb348, 1, none⟩) (Kd.R_far (p := ⟨gb348, 0, none⟩) (Kd.R_types (Kd.R_types HO346.out BK348.out (by decide)) BK349.out (by decide)) (fun _ hk => hk.1.2) (.slice Ao12 t313.length co12)) (fun _ hk => hk.1.2) (.slice Ao15 t316.length co15)) (fun _ hk => hk.1.2) (.slice Ao16 t319.length co16)) (fun _ hk => hk.2) (.int .i64 t322)) (fun _ hk => hk.2) (.int .i64 t323)) (fun _ hk => hk.2) (.int .i64 t324)) (fun _ hk => hk.2) (.int .i64 t325)) (fun _ hk => hk.2) (.int .i64 t326)) (fun _ hk => hk.2) (.int .i64 t327)) (fun _ hk => hk.2) (.int .i64 t328)) (fun _ hk => hk.2) (.slice Ao18 t329.length co18)) (fun _ hk => hk.2) (.slice Ao19 t332.length co19)) (fun _ hk => hk.2) (.slice Ao20 t335.length co20)) (fun _ hk => hk.2) (.slice Ao21 t338.length co21)) (fun _ hk => hk.2) (.slice Ao22 t341.length co22)) (fun _ hk => hk.2) (.slice Ao23 t344.length co23)) (fun _ hk => hk.2) (.int .i64 t347)) (fun _ h_ => h_.1)) (fun _ h_ => h_.1))) hb); replace BK348 := Aside0.mk (blk_below (g := gb348) (o := .cells #[.slice Ao12 t313.length co12, .slice Ao15 t316.length co15, .slice Ao16 t319.length co16] 32 (0, 0)) (by (with_reducible repeat (first | refine blk_drewN ?_ _ | refine blk_drew ?_ | refine blk_alloc ?_ _)); refine blk_far ?_ NB348_349.out _; refine blk_far ?_ NB348_349.out _; refine blk_far ?_ NB348_349.out _; refine blk_far ?_ NB348_349.out _; refine blk_far ?_ NB348_349.out _; refine blk_far ?_ NB348_349.out _; refine blk_far ?_ NB348_349.out _; refine blk_far ?_ NB348_349.out _; refine blk_far ?_ NB348_349.out _; refine blk_far ?_ NB348_349.out _; refine blk_far ?_ NB348_349.out _; refine blk_far ?_ NB348_349.out _; refine blk_far ?_ NB348_349.out _; refine blk_far ?_ NB348_349.out _; refine blk_put (cs := #[.slice Ao12 t313.length co12, .slice Ao15 t316.length co15, .slice none 0 0]) ?_ 2 _ rfl; refine blk_put (cs := #[.slice Ao12 t313.length co12, .slice none 0 0, .slice none 0 0]) ?_ 1 _ rfl; refine blk_put (cs := #[.slice none 0 0, .slice none 0 0, .slice none 0 0]) ?_ 0 _ rfl; (with_reducible repeat (first | refine blk_drewN ?_ _ | refine blk_drew ?_ | refine blk_alloc ?_ _)); exact BK348.out) hb); replace BK349 := Aside0.mk (blk_below (g := gb349) (o := .cells #[.int .i64 t322, .int .i64 t323, .int .i64 t324, .int .i64 t325, .int .i64 t326, .int .i64 t327, .int .i64 t328, .slice Ao18 t329.length co18, .slice Ao19 t332.length co19, .slice Ao20 t335.length co20, .slice Ao21 t338.length co21, .slice Ao22 t341.length co22, .slice Ao23 t344.length co23, .int .i64 t347] 40 (0, 0)) (by (with_reducible repeat (first | refine blk_drewN ?_ _ | refine blk_drew ?_ | refine blk_alloc ?_ _)); refine blk_put (cs := #[.int .i64 t322, .int .i64 t323, .int .i64 t324, .int .i64 t325, .int .i64 t326, .int .i64 t327, .int .i64 t328, .slice Ao18 t329.length co18, .slice Ao19 t332.length co19, .slice Ao20 t335.length co20, .slice Ao21 t338.length co21, .slice Ao22 t341.length co22, .slice Ao23 t344.length co23, .int .i64 0]) ?_ 13 _ rfl; refine blk_put (cs := #[.int .i64 t322, .int .i64 t323, .int .i64 t324, .int .i64 t325, .int .i64 t326, .int .i64 t327, .int .i64 t328, .slice Ao18 t329.length co18, .slice Ao19 t332.length co19, .slice Ao20 t335.length co20, .slice Ao21 t338.length co21, .slice Ao22 t341.length co22, .slice none 0 0, .int .i64 0]) ?_ 12 _ rfl; refine blk_put (cs := #[.int .i64 t322, .int .i64 t323, .int .i64 t324, .int .i64 t325, .int .i64 t326, .int .i64 t327, .int .i64 t328, .slice Ao18 t329.length co18, .slice Ao19 t332.length co19, .slice Ao20 t335.length co20, .slice Ao21 t338.length co21, .slice none 0 0, .slice none 0 0, .int .i64 0]) ?_ 11 _ rfl; refine blk_put (cs := #[.int .i64 t322, .int .i64 t323, .int .i64 t324, .int .i64 t325, .int .i64 t326, .int .i64 t327, .int .i64 t328, .slice Ao18 t329.length co18, .slice Ao19 t332.length co19, .slice Ao20 t335.length co20, .slice none 0 0, .slice none 0 0, .slice none 0 0, .int .i64 0]) ?_ 10 _ rfl; refine blk_put (cs := #[.int .i64 t322, .int .i64 t323, .int .i64 t324, .int .i64 t325, .int .i64 t326, .int .i64 t327, .int .i64 t328, .slice Ao18 t329.length co18, .slice Ao19 t332.length co19, .slice none 0 0, .slice none 0 0, .slice none 0 0, .slice none 0 0, .int .i64 0]) ?_ 9 _ rfl; refine blk_put (cs := #[.int .i64 t322, .int .i64 t323, .int .i64 t324, .int .i64 t325, .int .i64 t326, .int .i64 t327, .int .i64 t328, .slice Ao18 t329.length co18, .slice none 0 0, .slice none 0 0, .slice none 0 0, .slice none 0 0, .slice none 0 0, .int .i64 0]) ?_ 8 _ rfl; refine blk_put (cs := #[.int .i64 t322, .int .i64 t323, .int .i64 t324, .int .i64 t325, .int .i64 t326, .int .i64 t327, .int .i64 t328, .slice none 0 0, .slice none 0 0, .slice none 0 0, .slice none 0 0, .slice none 0 0, .slice none 0 0, .int .i64 0]) ?_ 7 _ rfl; refine blk_put (cs := #[.int .i64 t322, .int .i64 t323, .int .i64 t324, .int .i64 t325, .int .i64 t326, .int .i64 t327, .int .i64 0, .slice none 0 0, .slice none 0 0, .slice none 0 0, .slice none 0 0, .slice none 0 0, .slice none 0 0, .int .i64 0]) ?_ 6 _ rfl; refine blk_put (cs := #[.int .i64 t322, .int .i64 t323, .int .i64 t324, .int .i64 t325, .int .i64 t326, .int .i64 0, .int .i64 0, .slice none 0 0, .slice none 0 0, .slice none 0 0, .slice none 0 0, .slice none 0 0, .slice none 0 0, .int .i64 0]) ?_ 5 _ rfl; refine blk_put (cs := #[.int .i64 t322, .int .i64 t323, .int .i64 t324, .int .i64 t325, .int .i64 0, .int .i64 0, .int .i64 0, .slice none 0 0, .slice none 0 0, .slice none 0 0, .slice none 0 0, .slice none 0 0, .slice none 0 0, .int .i64 0]) ?_ 4 _ rfl; refine blk_put (cs := #[.int .i64 t322, .int .i64 t323, .int .i64 t324, .int .i64 0, .int .i64 0, .int .i64 0, .int .i64 0, .slice none 0 0, .slice none 0 0, .slice none 0 0, .slice none 0 0, .slice none 0 0, .slice none 0 0, .int .i64 0]) ?_ 3 _ rfl; refine blk_put (cs := #[.int .i64 t322, .int .i64 t323, .int .i64 0, .int .i64 0, .int .i64 0, .int .i64 0, .int .i64 0, .slice none 0 0, .slice none 0 0, .slice none 0 0, .slice none 0 0, .slice none 0 0, .slice none 0 0, .int .i64 0]) ?_ 2 _ rfl; refine blk_put (cs := #[.int .i64 t322, .int .i64 0, .int .i64 0, .int .i64 0, .int .i64 0, .int .i64 0, .int .i64 0, .slice none 0 0, .slice none 0 0, .slice none 0 0, .slice none 0 0, .slice none 0 0, .slice none 0 0, .int .i64 0]) ?_ 1 _ rfl; refine blk_put (cs := #[.int .i64 0, .int .i64 0, .int .i64 0, .int .i64 0, .int .i64 0, .int .i64 0, .int .i64 0, .slice none 0 0, .slice none 0 0, .slice none 0 0, .slice none 0 0, .slice none 0 0, .slice none 0 0, .int .i64 0]) ?_ 0 _ rfl; refine blk_far ?_ NB349_348.out _; refine blk_far ?_ NB349_348.out _; refine blk_far ?_ NB349_348.out _; (with_reducible repeat (first | refine blk_drewN ?_ _ | refine blk_drew ?_ | refine blk_alloc ?_ _)); exact BK349.out) hb); replace HB := Aside0.mk (below_step hbk hb); clear hb ho25; obtain ⟨Ao26, co26, eo26⟩ := Kd.R_slice HO352.out; subst eo26) | ((with_reducible refine gate_callee (f := 18) rfl ?_); refine goesL_ (some 19) rfl rfl Tryz.func18 (by kernel_rfl) rfl #[.agg #[.slice Ao12 t313.length co12, .slice Ao15 t316.length co15, .slice Ao16 t319.length co16], .agg #[.int .i64 t322, .int .i64 t323, .int .i64 t324, .int .i64 t325, .int .i64 t326, .int .i64 t327, .int .i64 t328, .slice Ao18 t329.length co18, .slice Ao19 t332.length co19, .slice Ao20 t335.length co20, .slice Ao21 t338.length co21, .slice Ao22 t341.length co22, .slice Ao23 t344.length co23, .int .i64 t347], .slice Ao26 y350.length co26] rfl hgl ?_; (with_reducible refine (measure_DutyAttributes.calls (hGL0 := ?sideGL) k _ _ t313 _ _ t316 _ _ t319 t322 t323 t324 t325 t326 t327 t328 _ _ t329 _ _ t332 _ _ t335 _ _ t338 _ _ t341 _ _ t344 t347 _ _ y350 t353 t356 _ ?side1 ?side2 ?side3 ?side4 ?side5 ?side6 ?side7 ?side8 ?side9 ?side10 ?side11 ?side12 ?side13 ?side14 ?side15 ?side16 ?side17 ?side18 ?side19 ?side20 A2.out).mono ?_); (case sideGL => exact gl_below HGL.out hbk); (case side1 => repeat (first | exact (Kd.N_reads' HO315.out).2.2 | (with_reducible refine Kd.C_alloc ?_ _) | (with_reducible refine Kd.C_drewN ?_ _) | (with_reducible refine Kd.C_drew ?_))); (case side2 => exact (Kd.N_reads' HO315.out).2.1); (case side3 => repeat (first | exact (Kd.R_reads' HO318.out).2.2 | (with_reducible refine Kd.C_alloc ?_ _) | (with_reducible refine Kd.C_drewN ?_ _) | (with_reducible refine Kd.C_drew ?_))); (case side4 => exact (Kd.R_reads' HO318.out).2.1); (case side5 => repeat (first | exact (Kd.R_reads' HO321.out).2.2 | (with_reducible refine Kd.C_alloc ?_ _) | (with_reducible refine Kd.C_drewN ?_ _) | (with_reducible refine Kd.C_drew ?_))); (case side6 => exact (Kd.R_reads' HO321.out).2.1); (case side7 => repeat (first | exact (Kd.N_reads' HO331.out).2.2 | (with_reducible refine Kd.C_alloc ?_ _) | (with_reducible refine Kd.C_drewN ?_ _) | (with_reducible refine Kd.C_drew ?_))); (case side8 => exact (Kd.N_reads' HO331.out).2.1); (case side9 => repeat (first | exact (Kd.N_reads' HO334.out).2.2 | (with_reducible refine Kd.C_alloc ?_ _) | (with_reducible refine Kd.C_drewN ?_ _) | (with_reducible refine Kd.C_drew ?_))); (case side10 => exact (Kd.N_reads' HO334.out).2.1); (case side11 => repeat (first | exact (Kd.N_reads' HO337.out).2.2 | (with_reducible refine Kd.C_alloc ?_ _) | (with_reducible refine Kd.C_drewN ?_ _) | (with_reducible refine Kd.C_drew ?_))); (case side12 => exact (Kd.N_reads' HO337.out).2.1); (case side13 => repeat (first | exact (Kd.N_reads' HO340.out).2.2 | (with_reducible refine Kd.C_alloc ?_ _) | (with_reducible refine Kd.C_drewN ?_ _) | (with_reducible refine Kd.C_drew ?_))); (case side14 => exact (Kd.N_reads' HO340.out).2.1); (case side15 => repeat (first | exact (Kd.R_reads' HO343.out).2.2 | (with_reducible refine Kd.C_alloc ?_ _) | (with_reducible refine Kd.C_drewN ?_ _) | (with_reducible refine Kd.C_drew ?_))); (case side16 => exact (Kd.R_reads' HO343.out).2.1); (case side17 => repeat (first | exact (Kd.R_reads' HO346.out).2.2 | (with_reducible refine Kd.C_alloc ?_ _) | (with_reducible refine Kd.C_drewN ?_ _) | (with_reducible refine Kd.C_drew ?_))); (case side18 => exact (Kd.R_reads' HO346.out).2.1); (case side19 => repeat (first | exact (Kd.R_reads' HO352.out).2.2 | (with_reducible refine Kd.C_alloc ?_ _) | (with_reducible refine Kd.C_drewN ?_ _) | (with_reducible refine Kd.C_drew ?_))); (case side20 => exact (Kd.R_reads' HO352.out).2.1); rintro e w27 ⟨v354, rfl, ho0, hb⟩; refine ⟨_, rfl, ?_⟩; have HO355 := Aside0.mk (Kd.R_lower ho0 (below_size hbk)); replace HO315 := Aside0.mk (Kd.N_elder' (by (with_reducible repeat (first | apply Kd.N_alloc | apply Kd.N_drewN | apply Kd.N_drew)); exact HO315.out) (Kd.R_base ho0) hb); replace HO318 := Aside0.mk (R_belowB HO318.out hb); replace HO321 := Aside0.mk (R_belowB HO321.out hb); replace HO331 := Aside0.mk (Kd.N_elder' (by (with_reducible repeat (first | apply Kd.N_alloc | apply Kd.N_drewN | apply Kd.N_drew)); exact HO331.out) (Kd.R_base ho0) hb); replace HO334 := Aside0.mk (Kd.N_elder' (by (with_reducible repeat (first | apply Kd.N_alloc | apply Kd.N_drewN | apply Kd.N_drew)); exact HO334.out) (Kd.R_base ho0) hb); replace HO337 := Aside0.mk (Kd.N_elder' (by (with_reducible repeat (first | apply Kd.N_alloc | apply Kd.N_drewN | apply Kd.N_drew)); exact HO337.out) (Kd.R_base ho0) hb); replace HO340 := Aside0.mk (Kd.N_elder' (by (with_reducible repeat (first | apply Kd.N_alloc | apply Kd.N_drewN | apply Kd.N_drew)); exact HO340.out) (Kd.R_base ho0) hb); replace HO343 := Aside0.mk (R_belowB HO343.out hb); replace HO346 := Aside0.mk (R_belowB HO346.out hb); replace HO352 := Aside0.mk (R_belowB HO352.out hb); replace BK348 := Aside0.mk (blk_belowB BK348.out hb); replace BK349 := Aside0.mk (blk_belowB BK349.out hb); replace HB := Aside0.mk (below_step hbk hb); (try clear hb); (try clear hb2); (try clear hk); (try clear hi); (try clear ho0); obtain ⟨Ao28, co28, eo28⟩ := Kd.R_slice HO355.out; subst eo28) | ((with_reducible refine gate_callee (f := 7) rfl ?_); refine goesL_ (some 26) rfl rfl Tryz.func7 (by kernel_rfl) rfl #[.slice Ao28 t353.length co28, .string (⟨#[98, 108, 111, 99, 107]⟩ : ByteArray)] rfl hgl ?_; (with_reducible refine (measure_Attribute.calls _ _ t353 (⟨#[98, 108, 111, 99, 107]⟩ : ByteArray) t357 t358 _ ?side1 ?side2 A4.out).mono ?_); (case side1 => repeat (first | exact (Kd.R_reads' HO355.out).2.2 | (with_reducible refine Kd.C_alloc ?_ _) | (with_reducible refine Kd.C_drewN ?_ _) | (with_reducible refine Kd.C_drew ?_))); (case side2 => exact (Kd.R_reads' HO355.out).2.1); rintro e w29 ⟨rfl, hb⟩; refine ⟨_, rfl, ?_⟩; replace HO315 := Aside0.mk (Kd.N_below (by (with_reducible repeat (first | apply Kd.N_alloc | apply Kd.N_drewN | apply Kd.N_drew)); exact HO315.out) hb); replace HO318 := Aside0.mk (R_belowB HO318.out hb); replace HO321 := Aside0.mk (R_belowB HO321.out hb); replace HO331 := Aside0.mk (Kd.N_below (by (with_reducible repeat (first | apply Kd.N_alloc | apply Kd.N_drewN | apply Kd.N_drew)); exact HO331.out) hb); replace HO334 := Aside0.mk (Kd.N_below (by (with_reducible repeat (first | apply Kd.N_alloc | apply Kd.N_drewN | apply Kd.N_drew)); exact HO334.out) hb); replace HO337 := Aside0.mk (Kd.N_below (by (with_reducible repeat (first | apply Kd.N_alloc | apply Kd.N_drewN | apply Kd.N_drew)); exact HO337.out) hb); replace HO340 := Aside0.mk (Kd.N_below (by (with_reducible repeat (first | apply Kd.N_alloc | apply Kd.N_drewN | apply Kd.N_drew)); exact HO340.out) hb); replace HO343 := Aside0.mk (R_belowB HO343.out hb); replace HO346 := Aside0.mk (R_belowB HO346.out hb); replace HO352 := Aside0.mk (R_belowB HO352.out hb); replace HO355 := Aside0.mk (R_belowB HO355.out hb); replace BK348 := Aside0.mk (blk_belowB BK348.out hb); replace BK349 := Aside0.mk (blk_belowB BK349.out hb); replace HB := Aside0.mk (below_step hbk hb); (try clear hb); (try clear hb2); (try clear hk); (try clear hi)) | ((with_reducible refine gate_callee (f := 7) rfl ?_); refine goesL_ (some 31) rfl rfl Tryz.func7 (by kernel_rfl) rfl #[.slice Ao28 t353.length co28, .string (⟨#[115, 112, 97, 110]⟩ : ByteArray)] rfl hgl ?_; (with_reducible refine (measure_Attribute.calls _ _ t353 (⟨#[115, 112, 97, 110]⟩ : ByteArray) t359 t360 _ ?side1 ?side2 A5.out).mono ?_); (case side1 => repeat (first | exact (Kd.R_reads' HO355.out).2.2 | (with_reducible refine Kd.C_alloc ?_ _) | (with_reducible refine Kd.C_drewN ?_ _) | (with_reducible refine Kd.C_drew ?_))); (case side2 => exact (Kd.R_reads' HO355.out).2.1); rintro e w30 ⟨rfl, hb⟩; refine ⟨_, rfl, ?_⟩; replace HO315 := Aside0.mk (Kd.N_below (by (with_reducible repeat (first | apply Kd.N_alloc | apply Kd.N_drewN | apply Kd.N_drew)); exact HO315.out) hb); replace HO318 := Aside0.mk (R_belowB HO318.out hb); replace HO321 := Aside0.mk (R_belowB HO321.out hb); replace HO331 := Aside0.mk (Kd.N_below (by (with_reducible repeat (first | apply Kd.N_alloc | apply Kd.N_drewN | apply Kd.N_drew)); exact HO331.out) hb); replace HO334 := Aside0.mk (Kd.N_below (by (with_reducible repeat (first | apply Kd.N_alloc | apply Kd.N_drewN | apply Kd.N_drew)); exact HO334.out) hb); replace HO337 := Aside0.mk (Kd.N_below (by (with_reducible repeat (first | apply Kd.N_alloc | apply Kd.N_drewN | apply Kd.N_drew)); exact HO337.out) hb); replace HO340 := Aside0.mk (Kd.N_below (by (with_reducible repeat (first | apply Kd.N_alloc | apply Kd.N_drewN | apply Kd.N_drew)); exact HO340.out) hb); replace HO343 := Aside0.mk (R_belowB HO343.out hb); replace HO346 := Aside0.mk (R_belowB HO346.out hb); replace HO352 := Aside0.mk (R_belowB HO352.out hb); replace HO355 := Aside0.mk (R_belowB HO355.out hb); replace BK348 := Aside0.mk (blk_belowB BK348.out hb); replace BK349 := Aside0.mk (blk_belowB BK349.out hb); replace HB := Aside0.mk (below_step hbk hb); (try clear hb); (try clear hb2); (try clear hk); (try clear hi)))
     go_ret
     exact ⟨hrf, hbk⟩
    ·rw [if_neg c8] at H
     exact absurd H (by simp)
   ·rw [if_neg c7] at H
    exact absurd H (by simp)
  ·rw [if_neg c6] at H
   exact absurd H (by simp)
 ·rw [if_neg c3] at H
  exact absurd H (by simp)
set_option maxRecDepth 100000 in
theorem awake15 : pairinglaw15_awakeP.f 200 = some true := by decide +kernel
def pairinglaw15_awake.f (k : Nat) : Option (Bool) := some true
theorem pairinglaw15_awake.calls (k : Nat)  (r : Bool) (w : World) (hGL0 : GL w) (h : pairinglaw15_awake.f k  = some r) :
  Calls Tryz.prog 6 #[] w fun e w' => e = .returned (.bool r) ∧ Below w.heap.size w w' := by
  have h' : some true = some r := h
  obtain rfl := Option.some.inj h'
  exact pairinglaw15_awakeP.calls 200 true w hGL0 awake15
end Go.Proofs.YtilnppdognejbaaGreatDoor.P
namespace Go.Proofs.YtilnppdognejbaaGreatDoor.P
open Go.RowKit Go.Proofs.YtilnppdognejbaaGreatDoorW.PrintWords Go.Proofs.YtilnppdognejbaaGreatDoorW.PrintLast Go.Proofs.YtilnppdognejbaaGreatDoorW.PrintMore
attribute [local go_sem] max2_int min2_int max_two min_two max_three min_three max_four min_four   -- for this text's walks alone
set_option linter.unusedVariables false
set_option linter.unusedSimpArgs false
def pairingref14_find.l0 : Nat → List (S62) → ByteArray → Int → Option (Int)
 | 0, _, _, _ => none
 | k + 1, x0, x1, x5 => if x5 < (x0.length : Int) then (if 0 ≤ x5 then (if ((rd_T62 x0 x5).f0).toList = x1.toList then (some x5) else (pairingref14_find.l0 k x0 x1 (wrap64 (x5 + 1)))) else (none)) else (some (-1))
def pairingref14_find.f (k : Nat) (l0 : List (S62)) (a1 : ByteArray) : Option (Int) := pairingref14_find.l0 k l0 a1 0
set_option maxHeartbeats 8000000 in
set_option maxRecDepth 100000 in
theorem pairingref14_find.calls (k : Nat) (A0 : Option Addr) (c0 : Nat) (l0 : List (S62)) (a1 : ByteArray) (r : Int) (w : World) (hr0 : Kd.C k62 w A0 l0.length l0) (hc0 : l0.length ≤ c0) (h : pairingref14_find.f k l0 a1 = some r) :
  Calls Tryz.prog 21 #[.slice A0 l0.length c0, .string a1] w fun e w' => e = .returned (.int .i64 r) ∧ Drawn0 w w' := by
 have HR0 := Aside0.mk hr0
 have HC0 := Aside0.mk hc0
 clear hr0 hc0
 have H : (pairingref14_find.l0 k l0 a1 0) = some r := h
 clear h
 have H' := Aside0.mk H
 clear H
 go_enter Tryz.func21, Tryz.ntmps21
 go_wp2
 go_loopg [5] k (fun kq v5 w' => ∃ (x5_1 : Int), v5 = .int .i64 x5_1 ∧ Aside0 (pairingref14_find.l0 kq l0 a1 x5_1 = some r) ∧ Aside0 (kq ≤ k) ∧ Drawn0 w w')
 case atStart => exact ⟨(0), (by first | rfl | (simp; done) | (simp [*]; done)), H', ⟨Nat.le_refl _⟩, by repeat (first | exact Drawn0.refl _ | apply Drawn0.step)⟩
 case round =>
  clear H'
  try clear c2
  try clear p2
  obtain ⟨x5_1, rfl, HA, HK1, ⟨m1, rfl⟩⟩ := hrel
  cases gk with
  | zero => exact absurd HA.out (by simp [pairingref14_find.l0])
  | succ k1 =>
   have H := HA.out
   clear HA
   simp only [pairingref14_find.l0] at H
   by_cases c3 : x5_1 < (l0.length : Int)
   ·rw [if_pos c3] at H
    have c3b0 : decide (x5_1 < (l0.length : Int)) = true := decide_eq_true c3
    clear c3
    by_cases c4 : 0 ≤ x5_1
    ·rw [if_pos c4] at H
     have c4b0 : decide (0 ≤ x5_1) = true := decide_eq_true c4
     clear c4
     by_cases c5 : ((rd_T62 l0 x5_1).f0).toList = a1.toList
     ·rw [if_pos c5] at H
      have c5b0 : (((rd_T62 l0 x5_1).f0).toList == a1.toList) = true := beq_iff_eq.mpr c5
      have c5b1 : (((rd_T62 l0 x5_1).f0).toList != a1.toList) = false := bne_eq_false_iff_eq.mpr c5
      clear c5
      obtain rfl := Option.some.inj H
      have p361 : 0 ≤ (x5_1 : Int) := of_decide_eq_true (by first | (with_reducible assumption) | assumption)
      have q361 : x5_1 < (l0.length : Int) := of_decide_eq_true (by first | (with_reducible assumption) | assumption)
      obtain ⟨ad361, e361, hx361_0, hx361_1⟩ := at_T62 HR0.out x5_1 p361 q361
      cases e361
      replace p361 := eq_true p361
      replace q361 := eq_true q361
      go_wp2
      go_ret
      exact ⟨by first | rfl | (simp; done) | (simp [*]; done), by repeat (first | exact Drawn0.refl _ | apply Drawn0.step)⟩
     ·rw [if_neg c5] at H
      have c5b0 : (((rd_T62 l0 x5_1).f0).toList == a1.toList) = false := beq_eq_false_iff_ne.mpr c5
      have c5b1 : (((rd_T62 l0 x5_1).f0).toList != a1.toList) = true := bne_iff_ne.mpr c5
      have H' := Aside0.mk H
      clear H
      have p361 : 0 ≤ (x5_1 : Int) := of_decide_eq_true (by first | (with_reducible assumption) | assumption)
      have q361 : x5_1 < (l0.length : Int) := of_decide_eq_true (by first | (with_reducible assumption) | assumption)
      obtain ⟨ad361, e361, hx361_0, hx361_1⟩ := at_T62 HR0.out x5_1 p361 q361
      cases e361
      replace p361 := eq_true p361
      replace q361 := eq_true q361
      go_wp2
      go_roundg k1
      case measure => have := HK1.out; omega
      case rel => exact ⟨(wrap64 (x5_1 + 1)), (by first | rfl | (simp; done) | (simp [*]; done)), H', ⟨by have := HK1.out; omega⟩, by repeat (first | exact Drawn0.refl _ | apply Drawn0.step)⟩
    ·rw [if_neg c4] at H
     exact absurd H (by simp)
   ·rw [if_neg c3] at H
    have c3b0 : decide (x5_1 < (l0.length : Int)) = false := decide_eq_false c3
    clear c3
    obtain rfl := Option.some.inj H
    go_wp2
    go_ret
    exact ⟨by first | rfl | (simp; done) | (simp [*]; done), by repeat (first | exact Drawn0.refl _ | apply Drawn0.step)⟩
end Go.Proofs.YtilnppdognejbaaGreatDoor.P
namespace Go.Proofs.YtilnppdognejbaaGreatDoor.P
open Go.RowKit Go.Proofs.YtilnppdognejbaaGreatDoorW.PrintWords Go.Proofs.YtilnppdognejbaaGreatDoorW.PrintLast Go.Proofs.YtilnppdognejbaaGreatDoorW.PrintMore
attribute [local go_sem] max2_int min2_int max_two min_two max_three min_three max_four min_four   -- for this text's walks alone
set_option linter.unusedVariables false
set_option linter.unusedSimpArgs false
def pairingref14_Attribute.f (k : Nat) (l0 : List (S62)) (a1 : ByteArray) : Option (Int × Int) := (pairingref14_find.f k l0 a1).bind fun t362 => (if t362 < 0 then (some (0, 6)) else (if 0 ≤ t362 then (if t362 < (l0.length : Int) then (some ((rd_T62 l0 t362).f1, 0)) else (none)) else (none)))
set_option maxHeartbeats 8000000 in
set_option maxRecDepth 100000 in
theorem pairingref14_Attribute.calls (k : Nat) (A0 : Option Addr) (c0 : Nat) (l0 : List (S62)) (a1 : ByteArray) (r1 : Int) (r2 : Int) (w : World) (hr0 : Kd.C k62 w A0 l0.length l0) (hc0 : l0.length ≤ c0) (h : pairingref14_Attribute.f k l0 a1 = some (r1, r2)) :
  Calls Tryz.prog 8 #[.slice A0 l0.length c0, .string a1] w fun e w' => e = .returned (.tuple #[.int .i64 r1, .int .i64 r2]) ∧ Drawn0 w w' := by
 have HR0 := Aside0.mk hr0
 have HC0 := Aside0.mk hc0
 clear hr0 hc0
 have H : ((pairingref14_find.f k l0 a1).bind fun t362 => (if t362 < 0 then (some (0, 6)) else (if 0 ≤ t362 then (if t362 < (l0.length : Int) then (some ((rd_T62 l0 t362).f1, 0)) else (none)) else (none)))) = some (r1, r2) := h
 clear h
 replace H := Option.bind_eq_some_iff.mp H
 obtain ⟨t362, A30, H⟩ := H
 replace H : (if t362 < 0 then (some (0, 6)) else (if 0 ≤ t362 then (if t362 < (l0.length : Int) then (some ((rd_T62 l0 t362).f1, 0)) else (none)) else (none))) = some (r1, r2) := H
 have A3 := Aside0.mk A30
 clear A30
 by_cases c4 : t362 < 0
 ·rw [if_pos c4] at H
  have c4b0 : decide (t362 < 0) = true := decide_eq_true c4
  clear c4
  simp only [Option.some.injEq, Prod.mk.injEq] at H
  obtain ⟨rfl, rfl⟩ := H
  go_enter Tryz.func8, Tryz.ntmps8
  go_wp2_with (first | ((with_reducible refine gate_callee (f := 21) rfl ?_); refine goesL_ (some 9) rfl rfl Tryz.func21 (by kernel_rfl) rfl #[.slice A0 l0.length c0, .string a1] rfl hgl ?_; (with_reducible refine (pairingref14_find.calls k _ _ l0 a1 t362 _ ?side1 ?side2 A3.out).mono ?_); (case side1 => repeat (first | exact HR0.out | (with_reducible refine Kd.C_alloc ?_ _) | (with_reducible refine Kd.C_drewN ?_ _) | (with_reducible refine Kd.C_drew ?_))); (case side2 => exact HC0.out); rintro e w' ⟨rfl, ⟨nd, rfl⟩⟩; refine ⟨_, rfl, ?_⟩))
  go_ret2
  exact ⟨by first | rfl | (simp; done) | (simp [*]; done), by repeat (first | exact Drawn0.refl _ | apply Drawn0.step)⟩
 ·rw [if_neg c4] at H
  have c4b0 : decide (t362 < 0) = false := decide_eq_false c4
  clear c4
  by_cases c5 : 0 ≤ t362
  ·rw [if_pos c5] at H
   have c5b0 : decide (0 ≤ t362) = true := decide_eq_true c5
   clear c5
   by_cases c6 : t362 < (l0.length : Int)
   ·rw [if_pos c6] at H
    have c6b0 : decide (t362 < (l0.length : Int)) = true := decide_eq_true c6
    clear c6
    simp only [Option.some.injEq, Prod.mk.injEq] at H
    obtain ⟨rfl, rfl⟩ := H
    go_enter Tryz.func8, Tryz.ntmps8
    go_wp2_with (first | ((with_reducible refine gate_callee (f := 21) rfl ?_); refine goesL_ (some 9) rfl rfl Tryz.func21 (by kernel_rfl) rfl #[.slice A0 l0.length c0, .string a1] rfl hgl ?_; (with_reducible refine (pairingref14_find.calls k _ _ l0 a1 t362 _ ?side1 ?side2 A3.out).mono ?_); (case side1 => repeat (first | exact HR0.out | (with_reducible refine Kd.C_alloc ?_ _) | (with_reducible refine Kd.C_drewN ?_ _) | (with_reducible refine Kd.C_drew ?_))); (case side2 => exact HC0.out); rintro e w' ⟨rfl, ⟨nd, rfl⟩⟩; refine ⟨_, rfl, ?_⟩; have p363 : 0 ≤ (t362 : Int) := of_decide_eq_true (by first | (with_reducible assumption) | assumption); have q363 : t362 < (l0.length : Int) := of_decide_eq_true (by first | (with_reducible assumption) | assumption); obtain ⟨ad363, e363, hx363_0, hx363_1⟩ := at_T62 HR0.out t362 p363 q363; cases e363; replace p363 := eq_true p363; replace q363 := eq_true q363))
    go_ret2
    exact ⟨by first | rfl | (simp; done) | (simp [*]; done), by repeat (first | exact Drawn0.refl _ | apply Drawn0.step)⟩
   ·rw [if_neg c6] at H
    exact absurd H (by simp)
  ·rw [if_neg c5] at H
   exact absurd H (by simp)
end Go.Proofs.YtilnppdognejbaaGreatDoor.P
namespace Go.Proofs.YtilnppdognejbaaGreatDoor.P
open Go.RowKit Go.Proofs.YtilnppdognejbaaGreatDoorW.PrintWords Go.Proofs.YtilnppdognejbaaGreatDoorW.PrintLast Go.Proofs.YtilnppdognejbaaGreatDoorW.PrintMore
attribute [local go_sem] max2_int min2_int max_two min_two max_three min_three max_four min_four   -- for this text's walks alone
set_option linter.unusedVariables false
set_option linter.unusedSimpArgs false
def pairinglaw15_MeasureLookup.f (k : Nat) (l0 : List (S62)) (a1 : ByteArray) : Option (Bool) := if (l0.length : Int) > 100 then ((pairinglaw15_awake.f k).bind fun t364 => (some t364)) else ((measure_Attribute.f l0 a1).bind fun bt365 => ((pairingref14_Attribute.f k l0 a1).bind fun bt367 => (if bt365.2 = bt367.2 then (if bt365.1 = bt367.1 then ((pairinglaw15_awake.f k).bind fun t369 => (some t369)) else (some false)) else (some false))))
set_option maxHeartbeats 8000000 in
set_option maxRecDepth 100000 in
theorem pairinglaw15_MeasureLookup.calls (k : Nat) (A0 : Option Addr) (c0 : Nat) (l0 : List (S62)) (a1 : ByteArray) (r : Bool) (w : World) (hGL0 : GL w) (hr0 : Kd.C k62 w A0 l0.length l0) (hc0 : l0.length ≤ c0) (h : pairinglaw15_MeasureLookup.f k l0 a1 = some r) :
  Calls Tryz.prog 3 #[.slice A0 l0.length c0, .string a1] w fun e w' => e = .returned (.bool r) ∧ Below w.heap.size w w' := by
 have HGL := Aside0.mk hGL0
 clear hGL0
 have HR0 := Aside0.mk hr0
 have HC0 := Aside0.mk hc0
 clear hr0 hc0
 have HB := Aside0.mk (Below.refl w.heap.size w)
 have H : (if (l0.length : Int) > 100 then ((pairinglaw15_awake.f k).bind fun t364 => (some t364)) else ((measure_Attribute.f l0 a1).bind fun bt365 => ((pairingref14_Attribute.f k l0 a1).bind fun bt367 => (if bt365.2 = bt367.2 then (if bt365.1 = bt367.1 then ((pairinglaw15_awake.f k).bind fun t369 => (some t369)) else (some false)) else (some false))))) = some r := h
 clear h
 by_cases c3 : (l0.length : Int) > 100
 ·rw [if_pos c3] at H
  have c3b0 : decide (100 < (l0.length : Int)) = true := decide_eq_true c3
  have c3b1 : decide (100 < l0.length) = true := decide_eq_true (by omega)
  clear c3
  replace H := Option.bind_eq_some_iff.mp H
  obtain ⟨t364, A40, H⟩ := H
  replace H : (some t364) = some r := H
  have A4 := Aside0.mk A40
  clear A40
  obtain rfl := Option.some.inj H
  go_enter Tryz.func3, Tryz.ntmps3
  go_wp2_with (first | ((with_reducible refine gate_callee (f := 6) rfl ?_); refine goesL_ (some 12) rfl rfl Tryz.func6 (by kernel_rfl) rfl #[] rfl hgl ?_; (with_reducible refine (pairinglaw15_awake.calls (hGL0 := ?sideGL) k  t364 _ A4.out).mono ?_); (case sideGL => exact gl_below HGL.out hbk); rintro e w5 ⟨rfl, hb⟩; refine ⟨_, rfl, ?_⟩; replace HB := Aside0.mk (below_step hbk hb); (try clear hb); (try clear hb2); (try clear hk); (try clear hi)))
  go_ret
  exact ⟨hrf, hbk⟩
 ·rw [if_neg c3] at H
  have c3b0 : decide (100 < (l0.length : Int)) = false := decide_eq_false c3
  have c3b1 : decide (100 < l0.length) = false := decide_eq_false (by omega)
  clear c3
  replace H := Option.bind_eq_some_iff.mp H
  obtain ⟨⟨t365, t366⟩, A60, H⟩ := H
  replace H : ((pairingref14_Attribute.f k l0 a1).bind fun bt367 => (if t366 = bt367.2 then (if t365 = bt367.1 then ((pairinglaw15_awake.f k).bind fun t369 => (some t369)) else (some false)) else (some false))) = some r := H
  have A6 := Aside0.mk A60
  clear A60
  replace H := Option.bind_eq_some_iff.mp H
  obtain ⟨⟨t367, t368⟩, A70, H⟩ := H
  replace H : (if t366 = t368 then (if t365 = t367 then ((pairinglaw15_awake.f k).bind fun t369 => (some t369)) else (some false)) else (some false)) = some r := H
  have A7 := Aside0.mk A70
  clear A70
  by_cases c8 : t366 = t368
  ·rw [if_pos c8] at H
   have c8b0 : (t366 == t368) = true := beq_iff_eq.mpr c8
   have c8b1 : (t366 != t368) = false := bne_eq_false_iff_eq.mpr c8
   clear c8
   by_cases c9 : t365 = t367
   ·rw [if_pos c9] at H
    have c9b0 : (t365 == t367) = true := beq_iff_eq.mpr c9
    have c9b1 : (t365 != t367) = false := bne_eq_false_iff_eq.mpr c9
    clear c9
    replace H := Option.bind_eq_some_iff.mp H
    obtain ⟨t369, A100, H⟩ := H
    replace H : (some t369) = some r := H
    have A10 := Aside0.mk A100
    clear A100
    obtain rfl := Option.some.inj H
    go_enter Tryz.func3, Tryz.ntmps3
    go_wp2_with (first | ((with_reducible refine gate_callee (f := 7) rfl ?_); refine goesL_ (some 16) rfl rfl Tryz.func7 (by kernel_rfl) rfl #[.slice A0 l0.length c0, .string a1] rfl hgl ?_; (with_reducible refine (measure_Attribute.calls _ _ l0 a1 t365 t366 _ ?side1 ?side2 A6.out).mono ?_); (case side1 => repeat (first | exact HR0.out | (with_reducible refine Kd.C_alloc ?_ _) | (with_reducible refine Kd.C_drewN ?_ _) | (with_reducible refine Kd.C_drew ?_))); (case side2 => exact HC0.out); rintro e w11 ⟨rfl, hb⟩; refine ⟨_, rfl, ?_⟩; replace HB := Aside0.mk (below_step hbk hb); (try clear hb); (try clear hb2); (try clear hk); (try clear hi)) | ((with_reducible refine gate_callee (f := 8) rfl ?_); refine goesL_ (some 22) rfl rfl Tryz.func8 (by kernel_rfl) rfl #[.slice A0 l0.length c0, .string a1] rfl hgl ?_; (with_reducible refine (pairingref14_Attribute.calls k _ _ l0 a1 t367 t368 _ ?side1 ?side2 A7.out).mono ?_); (case side1 => exact Kd.C_below HR0.out hbk); (case side2 => exact HC0.out); rintro e w' ⟨rfl, ⟨nd, rfl⟩⟩; refine ⟨_, rfl, ?_⟩) | (go_at_call 6; (with_reducible refine (pairinglaw15_awake.calls (hGL0 := ?sideGL) k  t369 _ A10.out).mono ?_); (case sideGL => exact gl_below HGL.out hbk); rintro e w12 ⟨rfl, hb⟩; replace HB := Aside0.mk (below_step hbk hb); (try clear hb); (try clear hb2); (try clear hk); (try clear hi)))
    go_ret
    exact ⟨hrf, hbk⟩
   ·rw [if_neg c9] at H
    have c9b0 : (t365 == t367) = false := beq_eq_false_iff_ne.mpr c9
    have c9b1 : (t365 != t367) = true := bne_iff_ne.mpr c9
    obtain rfl := Option.some.inj H
    go_enter Tryz.func3, Tryz.ntmps3
    go_wp2_with (first | ((with_reducible refine gate_callee (f := 7) rfl ?_); refine goesL_ (some 16) rfl rfl Tryz.func7 (by kernel_rfl) rfl #[.slice A0 l0.length c0, .string a1] rfl hgl ?_; (with_reducible refine (measure_Attribute.calls _ _ l0 a1 t365 t366 _ ?side1 ?side2 A6.out).mono ?_); (case side1 => repeat (first | exact HR0.out | (with_reducible refine Kd.C_alloc ?_ _) | (with_reducible refine Kd.C_drewN ?_ _) | (with_reducible refine Kd.C_drew ?_))); (case side2 => exact HC0.out); rintro e w13 ⟨rfl, hb⟩; refine ⟨_, rfl, ?_⟩; replace HB := Aside0.mk (below_step hbk hb); (try clear hb); (try clear hb2); (try clear hk); (try clear hi)) | ((with_reducible refine gate_callee (f := 8) rfl ?_); refine goesL_ (some 22) rfl rfl Tryz.func8 (by kernel_rfl) rfl #[.slice A0 l0.length c0, .string a1] rfl hgl ?_; (with_reducible refine (pairingref14_Attribute.calls k _ _ l0 a1 t367 t368 _ ?side1 ?side2 A7.out).mono ?_); (case side1 => exact Kd.C_below HR0.out hbk); (case side2 => exact HC0.out); rintro e w' ⟨rfl, ⟨nd, rfl⟩⟩; refine ⟨_, rfl, ?_⟩))
    go_ret
    exact ⟨hrf, hbk⟩
  ·rw [if_neg c8] at H
   have c8b0 : (t366 == t368) = false := beq_eq_false_iff_ne.mpr c8
   have c8b1 : (t366 != t368) = true := bne_iff_ne.mpr c8
   obtain rfl := Option.some.inj H
   go_enter Tryz.func3, Tryz.ntmps3
   go_wp2_with (first | ((with_reducible refine gate_callee (f := 7) rfl ?_); refine goesL_ (some 16) rfl rfl Tryz.func7 (by kernel_rfl) rfl #[.slice A0 l0.length c0, .string a1] rfl hgl ?_; (with_reducible refine (measure_Attribute.calls _ _ l0 a1 t365 t366 _ ?side1 ?side2 A6.out).mono ?_); (case side1 => repeat (first | exact HR0.out | (with_reducible refine Kd.C_alloc ?_ _) | (with_reducible refine Kd.C_drewN ?_ _) | (with_reducible refine Kd.C_drew ?_))); (case side2 => exact HC0.out); rintro e w14 ⟨rfl, hb⟩; refine ⟨_, rfl, ?_⟩; replace HB := Aside0.mk (below_step hbk hb); (try clear hb); (try clear hb2); (try clear hk); (try clear hi)) | ((with_reducible refine gate_callee (f := 8) rfl ?_); refine goesL_ (some 22) rfl rfl Tryz.func8 (by kernel_rfl) rfl #[.slice A0 l0.length c0, .string a1] rfl hgl ?_; (with_reducible refine (pairingref14_Attribute.calls k _ _ l0 a1 t367 t368 _ ?side1 ?side2 A7.out).mono ?_); (case side1 => exact Kd.C_below HR0.out hbk); (case side2 => exact HC0.out); rintro e w' ⟨rfl, ⟨nd, rfl⟩⟩; refine ⟨_, rfl, ?_⟩))
   go_ret
   exact ⟨hrf, hbk⟩
end Go.Proofs.YtilnppdognejbaaGreatDoor.P
namespace Go.Proofs.YtilnppdognejbaaGreatDoor.P
open Go.RowKit Go.Proofs.YtilnppdognejbaaGreatDoorW.PrintWords Go.Proofs.YtilnppdognejbaaGreatDoorW.PrintLast Go.Proofs.YtilnppdognejbaaGreatDoorW.PrintMore
attribute [local go_sem] max2_int min2_int max_two min_two max_three min_three max_four min_four
set_option linter.unusedVariables false
set_option linter.unusedSimpArgs false
theorem find_l0 (l : List S62) (nm : ByteArray) (hl : l.length ≤ 100) : ∀ (k i : Nat), i ≤ l.length → l.length < k + i → (∀ j : Nat, j < i → isAt nm (rd_T62 l (j : Int)) = false) → pairingref14_find.l0 k l nm (i : Int) = some (attrIx l nm)
  | 0, i, h1, h2, _ => by omega
  | k + 1, i, h1, h2, h3 => by
    unfold pairingref14_find.l0
    by_cases hlt : i < l.length
    · rw [if_pos (by omega), if_pos (by omega)]
      by_cases hq : ((rd_T62 l (i : Int)).f0).toList = nm.toList
      · rw [if_pos hq, attrIx_hit l nm i hlt (by unfold isAt; exact beq_iff_eq.mpr hq) h3]
      · rw [if_neg hq, show wrap64 ((i : Int) + 1) = ((i + 1 : Nat) : Int) from by rw [IntWalk.wrap64_in _ (by omega)]; omega]
        refine find_l0 l nm hl k (i + 1) (by omega) (by omega) (fun j hj => ?_)
        by_cases e : j = i
        · subst e; unfold isAt; exact beq_eq_false_iff_ne.mpr hq
        · exact h3 j (by omega)
    · rw [if_neg (by omega), attrIx_miss l nm (fun j hj => h3 j (by omega))]
theorem awake_f (k : Nat) : pairinglaw15_awake.f k = some true := rfl
theorem lookup_law (l : List S62) (nm : ByteArray) : pairinglaw15_MeasureLookup.f 200 l nm = some true := by
  unfold pairinglaw15_MeasureLookup.f
  by_cases h : (l.length : Int) > 100
  · rw [if_pos h, awake_f]
    rfl
  · rw [if_neg h, awake_f]
    have hf : pairingref14_find.f 200 l nm = some (attrIx l nm) := by
      unfold pairingref14_find.f
      exact find_l0 l nm (by omega) 200 0 (by omega) (by omega) (fun j hj => by omega)
    by_cases hn : attrIx l nm < 0
    · have e1 : measure_Attribute.f l nm = some (0, 6) := by
        unfold measure_Attribute.f
        rw [if_pos (by omega), if_pos hn]
      have e2 : pairingref14_Attribute.f 200 l nm = some (0, 6) := by
        unfold pairingref14_Attribute.f
        rw [hf]
        simp only [Option.bind_some]
        rw [if_pos hn]
      rw [e1, e2]
      rfl
    · have hr := attrIx_lt l nm hn
      have e1 : measure_Attribute.f l nm = some ((rd_T62 l (attrIx l nm)).f1, 0) := by
        unfold measure_Attribute.f
        rw [if_pos (by omega), if_neg hn]
      have e2 : pairingref14_Attribute.f 200 l nm = some ((rd_T62 l (attrIx l nm)).f1, 0) := by
        unfold pairingref14_Attribute.f
        rw [hf]
        simp only [Option.bind_some]
        rw [if_neg hn, if_pos hr.1, if_pos hr.2]
      rw [e1, e2]
      simp
end Go.Proofs.YtilnppdognejbaaGreatDoor.P
