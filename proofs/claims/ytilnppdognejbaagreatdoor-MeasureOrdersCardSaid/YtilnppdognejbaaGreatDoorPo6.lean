/- Walks: each Go function named below, called with what its Lean function answers, returns just that; and the words of the print that they use (wip/xprint.py, wip/shrink.py, wip/prune.py over the kit's print; some by hand). Conditions: those in each theorem. -/
import Derived.Test.YtilnppdognejbaaGreatDoorPo1
import Derived.Test.YtilnppdognejbaaGreatDoorPo5
namespace Go.Proofs.YtilnppdognejbaaGreatDoor.P
open Go.RowKit Go.Proofs.YtilnppdognejbaaGreatDoorW.PrintWords Go.Proofs.YtilnppdognejbaaGreatDoorW.PrintLast Go.Proofs.YtilnppdognejbaaGreatDoorW.PrintMore
attribute [local go_sem] max2_int min2_int max_two min_two max_three min_three max_four min_four   -- for this text's walks alone
set_option linter.unusedVariables false
set_option linter.unusedSimpArgs false
mutual
def pairinglaw15_MeasureOrders.j0 : Nat → Bool → ByteArray → List (List (S50)) → ByteArray → List (List (S50)) → ByteArray → List (List (S50)) → Option (Bool)
 | 0, _, _, _, _, _, _, _ => none
 | k + 1, x24, x402000, x402001, x403000, x403001, x404000, x404001 => if x24 = true then ((pairinglaw15_awake.f k).bind fun t407 => (some t407)) else ((measure_ComparePairings.f k x402000 x402001 x403000 x403001).bind fun t408 => ((measure_ComparePairings.f k x403000 x403001 x404000 x404001).bind fun t409 => ((measure_ComparePairings.f k x402000 x402001 x404000 x404001).bind fun t410 => ((pairingref14_ComparePairings.f k x402000 x402001 x403000 x403001).bind fun t411 => (if t408 = t411 then ((measure_ComparePairings.f k x403000 x403001 x402000 x402001).bind fun t412 => (if t412 = (wrap64 (-t408)) then ((measure_ComparePairings.f k x402000 x402001 x402000 x402001).bind fun t413 => (if t413 = 0 then (if t408 ≤ 0 then (if t409 ≤ 0 then (pairinglaw15_MeasureOrders.j1 k (decide (t410 > 0)) x402000 x402001 x403000 x403001) else (pairinglaw15_MeasureOrders.j1 k false x402000 x402001 x403000 x403001)) else (pairinglaw15_MeasureOrders.j1 k false x402000 x402001 x403000 x403001)) else (pairinglaw15_MeasureOrders.j1 k true x402000 x402001 x403000 x403001))) else (pairinglaw15_MeasureOrders.j1 k true x402000 x402001 x403000 x403001))) else (pairinglaw15_MeasureOrders.j1 k true x402000 x402001 x403000 x403001))))))
def pairinglaw15_MeasureOrders.j1 : Nat → Bool → ByteArray → List (List (S50)) → ByteArray → List (List (S50)) → Option (Bool)
 | 0, _, _, _, _, _ => none
 | k + 1, x65, x402000, x402001, x403000, x403001 => if x65 = true then (some false) else (pairinglaw15_MeasureOrders.l0 k 0 x402000 x402001 x403000 x403001)
def pairinglaw15_MeasureOrders.l0 : Nat → Int → ByteArray → List (List (S50)) → ByteArray → List (List (S50)) → Option (Bool)
 | 0, _, _, _, _, _ => none
 | k + 1, x10, x402000, x402001, x403000, x403001 => if x10 < (x402001.length : Int) then (pairinglaw15_MeasureOrders.l1 k x10 0 x402000 x402001 x403000 x403001) else ((pairinglaw15_awake.f k).bind fun t414 => (some t414))
def pairinglaw15_MeasureOrders.l1 : Nat → Int → Int → ByteArray → List (List (S50)) → ByteArray → List (List (S50)) → Option (Bool)
 | 0, _, _, _, _, _, _ => none
 | k + 1, x10, x11, x402000, x402001, x403000, x403001 => if x11 < (x403001.length : Int) then (if 0 ≤ x10 then (if x10 < (x402001.length : Int) then (if 0 ≤ x11 then ((measure_CompareDuties.f (rd_L31 x402001 x10) (rd_L31 x403001 x11)).bind fun t417 => ((pairingref14_CompareDuties.f k (rd_L31 x402001 x10) (rd_L31 x403001 x11)).bind fun t420 => (if t417 = t420 then (pairinglaw15_MeasureOrders.l1 k x10 (wrap64 (x11 + 1)) x402000 x402001 x403000 x403001) else (some false)))) else (none)) else (none)) else (none)) else (pairinglaw15_MeasureOrders.l0 k (wrap64 (x10 + 1)) x402000 x402001 x403000 x403001)
end
def pairinglaw15_MeasureOrders.f (k : Nat) (a0_0 : ByteArray) (l0_1 : List (List (S50))) (a1_0 : ByteArray) (l1_1 : List (List (S50))) (a2_0 : ByteArray) (l2_1 : List (List (S50))) : Option (Bool) := (pairinglaw15_LightPairing.f k a0_0 l0_1).bind fun t404 => (if t404 = true then ((pairinglaw15_LightPairing.f k a1_0 l1_1).bind fun t405 => (if t405 = true then ((pairinglaw15_LightPairing.f k a2_0 l2_1).bind fun t406 => (pairinglaw15_MeasureOrders.j0 k (!t406) a0_0 l0_1 a1_0 l1_1 a2_0 l2_1)) else (pairinglaw15_MeasureOrders.j0 k true a0_0 l0_1 a1_0 l1_1 a2_0 l2_1))) else (pairinglaw15_MeasureOrders.j0 k true a0_0 l0_1 a1_0 l1_1 a2_0 l2_1))
def pairinglaw15_MeasureOrders.T3 : Bool × List (List Nat × List Nat) := (true, [([], []), ([], []), ([0, 1], [0, 1]), ([], []), ([], []), ([3, 4, 2], [3, 4]), ([], []), ([], []), ([6, 7, 5], [6, 7]), ([2, 8, 0, 1, 2], [2]), ([5, 9, 0, 1, 2, 3, 4, 5, 9], [5]), ([8, 10, 0, 1, 2, 3, 4, 5, 6, 7, 8, 9, 10], [8])])
def pairinglaw15_MeasureOrders.B3 : List Nat := [0, 0, 3, 0, 0, 31, 0, 0, 255, 511, 1023, 2047]
theorem pairinglaw15_MeasureOrders.tab3 : rtab .any (opsOf Tryz.f5 3) = pairinglaw15_MeasureOrders.T3 := by kernel_rfl
theorem pairinglaw15_MeasureOrders.bits3 : waitsOk pairinglaw15_MeasureOrders.T3.2 pairinglaw15_MeasureOrders.B3 = true := by kernel_rfl
def pairinglaw15_MeasureOrders.T12 : Bool × List (List Nat × List Nat) := (true, [([], []), ([0], [0]), ([], []), ([1, 2], [1, 2]), ([3], [3]), ([], []), ([5], [5]), ([], []), ([6, 7], [6, 7]), ([8], [8]), ([4, 9], [4, 9]), ([], []), ([11], [11]), ([], []), ([12, 13], [12, 13]), ([14], [14]), ([], []), ([16], [16]), ([], []), ([17, 18], [17, 18]), ([19], [19]), ([15, 20, 10], [15, 20]), ([10, 21], [10, 21])])
def pairinglaw15_MeasureOrders.B12 : List Nat := [0, 1, 0, 7, 15, 0, 32, 0, 224, 480, 1023, 0, 2048, 0, 14336, 30720, 0, 65536, 0, 458752, 983040, 2097151, 4194303]
theorem pairinglaw15_MeasureOrders.tab12 : rtab .any (opsOf Tryz.f5 12) = pairinglaw15_MeasureOrders.T12 := by kernel_rfl
theorem pairinglaw15_MeasureOrders.bits12 : waitsOk pairinglaw15_MeasureOrders.T12.2 pairinglaw15_MeasureOrders.B12 = true := by kernel_rfl
set_option maxHeartbeats 8000000 in
set_option maxRecDepth 100000 in
theorem pairinglaw15_MeasureOrders.calls (k : Nat) (a0_0 : ByteArray) (A0_1 : Option Addr) (c0_1 : Nat) (l0_1 : List (List (S50))) (a1_0 : ByteArray) (A1_1 : Option Addr) (c1_1 : Nat) (l1_1 : List (List (S50))) (a2_0 : ByteArray) (A2_1 : Option Addr) (c2_1 : Nat) (l2_1 : List (List (S50))) (r : Bool) (w : World) (hGL0 : GL w) (hr0_1 : Kd.C (Kd.slice 50 k50) w A0_1 l0_1.length l0_1) (hc0_1 : l0_1.length ≤ c0_1) (hr1_1 : Kd.C (Kd.slice 50 k50) w A1_1 l1_1.length l1_1) (hc1_1 : l1_1.length ≤ c1_1) (hr2_1 : Kd.C (Kd.slice 50 k50) w A2_1 l2_1.length l2_1) (hc2_1 : l2_1.length ≤ c2_1) (h : pairinglaw15_MeasureOrders.f k a0_0 l0_1 a1_0 l1_1 a2_0 l2_1 = some r) :
  Calls Tryz.prog 5 #[.agg #[.string a0_0, .slice A0_1 l0_1.length c0_1], .agg #[.string a1_0, .slice A1_1 l1_1.length c1_1], .agg #[.string a2_0, .slice A2_1 l2_1.length c2_1]] w fun e w' => e = .returned (.bool r) ∧ Below w.heap.size w w' := by
 have HGL := Aside0.mk hGL0
 clear hGL0
 have hu43 := Tryz.underlying43
 have HR0_1 := Aside0.mk hr0_1
 have HC0_1 := Aside0.mk hc0_1
 clear hr0_1 hc0_1
 have HR1_1 := Aside0.mk hr1_1
 have HC1_1 := Aside0.mk hc1_1
 clear hr1_1 hc1_1
 have HR2_1 := Aside0.mk hr2_1
 have HC2_1 := Aside0.mk hc2_1
 clear hr2_1 hc2_1
 have HB := Aside0.mk (Below.refl w.heap.size w)
 have H : ((pairinglaw15_LightPairing.f k a0_0 l0_1).bind fun t404 => (if t404 = true then ((pairinglaw15_LightPairing.f k a1_0 l1_1).bind fun t405 => (if t405 = true then ((pairinglaw15_LightPairing.f k a2_0 l2_1).bind fun t406 => (pairinglaw15_MeasureOrders.j0 k (!t406) a0_0 l0_1 a1_0 l1_1 a2_0 l2_1)) else (pairinglaw15_MeasureOrders.j0 k true a0_0 l0_1 a1_0 l1_1 a2_0 l2_1))) else (pairinglaw15_MeasureOrders.j0 k true a0_0 l0_1 a1_0 l1_1 a2_0 l2_1))) = some r := h
 clear h
 have HC4 := Aside0.mk H
 clear H
 go_enter Tryz.func5, Tryz.ntmps5
 go_upto_region 1 with (first | ((with_reducible refine gate_dst (N := 3) rfl ?_); refine box_event ?hg (N := 3) ?hd (cs := #[.string a0_0, .slice A0_1 l0_1.length c0_1]) (t := 43) ?hr ?_; (case hd => rfl); (case hg => rfl); (case hr => first | (go_simp; done) | (go_simp; rfl)); intro gb401 hg w5 hbox hb; have BK401 := Aside0.mk hbox; have GE401 := Aside0.mk ((by rw [hg]; exact (below_size hbk) : w.heap.size ≤ gb401)); replace HB := Aside0.mk (below_step hbk hb); clear hb hbox hg) | ((with_reducible refine gate_dst (N := 4) rfl ?_); refine box_event ?hg (N := 4) ?hd (cs := #[.string a1_0, .slice A1_1 l1_1.length c1_1]) (t := 43) ?hr ?_; (case hd => rfl); (case hg => rfl); (case hr => first | (go_simp; done) | (go_simp; rfl)); intro gb402 hg w6 hbox hb; have BK402 := Aside0.mk hbox; have GE402 := Aside0.mk ((by rw [hg]; exact (below_size hbk) : w.heap.size ≤ gb402)); have NB401_402 := Aside0.mk ((by rw [hg]; exact Nat.ne_of_lt (blk_ltB BK401.out) : gb401 ≠ gb402)); have NB402_401 := Aside0.mk ((by rw [hg]; exact Nat.ne_of_gt (blk_ltB BK401.out) : gb402 ≠ gb401)); replace BK401 := Aside0.mk (blk_belowB BK401.out hb); replace HB := Aside0.mk (below_step hbk hb); clear hb hbox hg) | ((with_reducible refine gate_dst (N := 5) rfl ?_); refine box_event ?hg (N := 5) ?hd (cs := #[.string a2_0, .slice A2_1 l2_1.length c2_1]) (t := 43) ?hr ?_; (case hd => rfl); (case hg => rfl); (case hr => first | (go_simp; done) | (go_simp; rfl)); intro gb403 hg w7 hbox hb; have BK403 := Aside0.mk hbox; have GE403 := Aside0.mk ((by rw [hg]; exact (below_size hbk) : w.heap.size ≤ gb403)); have NB401_403 := Aside0.mk ((by rw [hg]; exact Nat.ne_of_lt (blk_ltB BK401.out) : gb401 ≠ gb403)); have NB403_401 := Aside0.mk ((by rw [hg]; exact Nat.ne_of_gt (blk_ltB BK401.out) : gb403 ≠ gb401)); have NB402_403 := Aside0.mk ((by rw [hg]; exact Nat.ne_of_lt (blk_ltB BK402.out) : gb402 ≠ gb403)); have NB403_402 := Aside0.mk ((by rw [hg]; exact Nat.ne_of_gt (blk_ltB BK402.out) : gb403 ≠ gb402)); replace BK401 := Aside0.mk (blk_belowB BK401.out hb); replace BK402 := Aside0.mk (blk_belowB BK402.out hb); replace HB := Aside0.mk (below_step hbk hb); clear hb hbox hg))
 (try simp only [Act.put, List.setIfInBounds_toArray, List.set_cons_zero, List.set_cons_succ])
 go_cut [24] (fun v24 wc => ∃ (kq : Nat) (x24_3 : Bool), v24 = .bool x24_3 ∧ Aside0 (pairinglaw15_MeasureOrders.j0 kq x24_3 a0_0 l0_1 a1_0 l1_1 a2_0 l2_1 = some r) ∧ Aside0 (kq ≤ k) ∧ Aside0 (wc.heap[gb401]? = some (.cells #[.string a0_0, (.slice A0_1 l0_1.length c0_1)] 43 (0, 0))) ∧ Aside0 (wc.heap[gb402]? = some (.cells #[.string a1_0, (.slice A1_1 l1_1.length c1_1)] 43 (0, 0))) ∧ Aside0 (wc.heap[gb403]? = some (.cells #[.string a2_0, (.slice A2_1 l2_1.length c2_1)] 43 (0, 0))) ∧ Aside0 (Below w.heap.size w wc))
 case first =>
  have H := HC4.out
  clear HC4
  replace H := Option.bind_eq_some_iff.mp H
  obtain ⟨t404, A80, H⟩ := H
  replace H : (if t404 = true then ((pairinglaw15_LightPairing.f k a1_0 l1_1).bind fun t405 => (if t405 = true then ((pairinglaw15_LightPairing.f k a2_0 l2_1).bind fun t406 => (pairinglaw15_MeasureOrders.j0 k (!t406) a0_0 l0_1 a1_0 l1_1 a2_0 l2_1)) else (pairinglaw15_MeasureOrders.j0 k true a0_0 l0_1 a1_0 l1_1 a2_0 l2_1))) else (pairinglaw15_MeasureOrders.j0 k true a0_0 l0_1 a1_0 l1_1 a2_0 l2_1)) = some r := H
  have A8 := Aside0.mk A80
  clear A80
  by_cases c9 : t404 = true
  ·subst c9
   have H1 : ((pairinglaw15_LightPairing.f k a1_0 l1_1).bind fun t405 => (if t405 = true then ((pairinglaw15_LightPairing.f k a2_0 l2_1).bind fun t406 => (pairinglaw15_MeasureOrders.j0 k (!t406) a0_0 l0_1 a1_0 l1_1 a2_0 l2_1)) else (pairinglaw15_MeasureOrders.j0 k true a0_0 l0_1 a1_0 l1_1 a2_0 l2_1))) = some r := by rw [if_pos rfl] at H; exact H
   clear H
   have H := H1
   clear H1
   replace H := Option.bind_eq_some_iff.mp H
   obtain ⟨t405, A100, H⟩ := H
   replace H : (if t405 = true then ((pairinglaw15_LightPairing.f k a2_0 l2_1).bind fun t406 => (pairinglaw15_MeasureOrders.j0 k (!t406) a0_0 l0_1 a1_0 l1_1 a2_0 l2_1)) else (pairinglaw15_MeasureOrders.j0 k true a0_0 l0_1 a1_0 l1_1 a2_0 l2_1)) = some r := H
   have A10 := Aside0.mk A100
   clear A100
   by_cases c11 : t405 = true
   ·subst c11
    have H1 : ((pairinglaw15_LightPairing.f k a2_0 l2_1).bind fun t406 => (pairinglaw15_MeasureOrders.j0 k (!t406) a0_0 l0_1 a1_0 l1_1 a2_0 l2_1)) = some r := by rw [if_pos rfl] at H; exact H
    clear H
    have H := H1
    clear H1
    replace H := Option.bind_eq_some_iff.mp H
    obtain ⟨t406, A120, H⟩ := H
    replace H : (pairinglaw15_MeasureOrders.j0 k (!t406) a0_0 l0_1 a1_0 l1_1 a2_0 l2_1) = some r := H
    have A12 := Aside0.mk A120
    clear A120
    have H' := Aside0.mk H
    clear H
    have hnb13 := NB401_402.out
    have hnc13 := NB402_401.out
    have hnb14 := NB401_403.out
    have hnc14 := NB403_401.out
    obtain ⟨hcz15_0, hcz15_1⟩ := blk_cs2 BK401.out
    obtain ⟨hfz15_0, hfz15_1⟩ := blk_fs2 BK401.out
    go_wp2_with (first | ((with_reducible refine gate_callee (f := 10) rfl ?_); refine goesL_ (some 13) rfl rfl Tryz.func10 (by kernel_rfl) rfl #[.agg #[.string a0_0, .slice A0_1 l0_1.length c0_1]] rfl hgl ?_; (with_reducible refine (pairinglaw15_LightPairing.calls k a0_0 _ _ l0_1 true _ ?side1 ?side2 A8.out).mono ?_); (case side1 => exact Kd.C_below HR0_1.out hbk); (case side2 => exact HC0_1.out); rintro e w16 ⟨rfl, hb⟩; refine ⟨_, rfl, ?_⟩; replace BK401 := Aside0.mk (blk_belowB BK401.out hb); replace BK402 := Aside0.mk (blk_belowB BK402.out hb); replace BK403 := Aside0.mk (blk_belowB BK403.out hb); replace HB := Aside0.mk (below_step hbk hb); (try clear hb); (try clear hb2); (try clear hk); (try clear hi); have hnb17 := NB402_403.out; have hnc17 := NB403_402.out; obtain ⟨hcz18_0, hcz18_1⟩ := blk_cs2 BK402.out; obtain ⟨hfz18_0, hfz18_1⟩ := blk_fs2 BK402.out) | (go_at_call 10; (with_reducible refine (pairinglaw15_LightPairing.calls k a1_0 _ _ l1_1 true _ ?side1 ?side2 A10.out).mono ?_); (case side1 => exact Kd.C_below HR1_1.out hbk); (case side2 => exact HC1_1.out); rintro e w19 ⟨rfl, hb⟩; replace BK401 := Aside0.mk (blk_belowB BK401.out hb); replace BK402 := Aside0.mk (blk_belowB BK402.out hb); replace BK403 := Aside0.mk (blk_belowB BK403.out hb); replace HB := Aside0.mk (below_step hbk hb); (try clear hb); (try clear hb2); (try clear hk); (try clear hi); obtain ⟨hcz20_0, hcz20_1⟩ := blk_cs2 BK403.out; obtain ⟨hfz20_0, hfz20_1⟩ := blk_fs2 BK403.out) | (go_at_call 10; (with_reducible refine (pairinglaw15_LightPairing.calls k a2_0 _ _ l2_1 t406 _ ?side1 ?side2 A12.out).mono ?_); (case side1 => exact Kd.C_below HR2_1.out hbk); (case side2 => exact HC2_1.out); rintro e w21 ⟨rfl, hb⟩; replace BK401 := Aside0.mk (blk_belowB BK401.out hb); replace BK402 := Aside0.mk (blk_belowB BK402.out hb); replace BK403 := Aside0.mk (blk_belowB BK403.out hb); replace HB := Aside0.mk (below_step hbk hb); (try clear hb); (try clear hb2); (try clear hk); (try clear hi)))
    go_meet
    case rel => exact ⟨_, (!t406), (by first | rfl | (simp; done) | (simp [*]; done)), H', ⟨by first | omega | exact Nat.le_refl _⟩, ⟨by (with_reducible repeat (first | refine blk_drewN ?_ _ | refine blk_drew ?_ | refine blk_alloc ?_ _)); exact BK401.out⟩, ⟨by (with_reducible repeat (first | refine blk_drewN ?_ _ | refine blk_drew ?_ | refine blk_alloc ?_ _)); exact BK402.out⟩, ⟨by (with_reducible repeat (first | refine blk_drewN ?_ _ | refine blk_drew ?_ | refine blk_alloc ?_ _)); exact BK403.out⟩, ⟨hbk⟩⟩
   ·replace c11 := Bool.eq_false_iff.mpr c11
    subst c11
    have H1 : (pairinglaw15_MeasureOrders.j0 k true a0_0 l0_1 a1_0 l1_1 a2_0 l2_1) = some r := by rw [if_neg (show ¬ (false = true) by decide)] at H; exact H
    clear H
    have H := H1
    clear H1
    have H' := Aside0.mk H
    clear H
    have hnb22 := NB401_402.out
    have hnc22 := NB402_401.out
    have hnb23 := NB401_403.out
    have hnc23 := NB403_401.out
    obtain ⟨hcz24_0, hcz24_1⟩ := blk_cs2 BK401.out
    obtain ⟨hfz24_0, hfz24_1⟩ := blk_fs2 BK401.out
    go_wp2_with (first | ((with_reducible refine gate_callee (f := 10) rfl ?_); refine goesL_ (some 13) rfl rfl Tryz.func10 (by kernel_rfl) rfl #[.agg #[.string a0_0, .slice A0_1 l0_1.length c0_1]] rfl hgl ?_; (with_reducible refine (pairinglaw15_LightPairing.calls k a0_0 _ _ l0_1 true _ ?side1 ?side2 A8.out).mono ?_); (case side1 => exact Kd.C_below HR0_1.out hbk); (case side2 => exact HC0_1.out); rintro e w25 ⟨rfl, hb⟩; refine ⟨_, rfl, ?_⟩; replace BK401 := Aside0.mk (blk_belowB BK401.out hb); replace BK402 := Aside0.mk (blk_belowB BK402.out hb); replace BK403 := Aside0.mk (blk_belowB BK403.out hb); replace HB := Aside0.mk (below_step hbk hb); (try clear hb); (try clear hb2); (try clear hk); (try clear hi); have hnb26 := NB402_403.out; have hnc26 := NB403_402.out; obtain ⟨hcz27_0, hcz27_1⟩ := blk_cs2 BK402.out; obtain ⟨hfz27_0, hfz27_1⟩ := blk_fs2 BK402.out) | (go_at_call 10; (with_reducible refine (pairinglaw15_LightPairing.calls k a1_0 _ _ l1_1 false _ ?side1 ?side2 A10.out).mono ?_); (case side1 => exact Kd.C_below HR1_1.out hbk); (case side2 => exact HC1_1.out); rintro e w28 ⟨rfl, hb⟩; replace BK401 := Aside0.mk (blk_belowB BK401.out hb); replace BK402 := Aside0.mk (blk_belowB BK402.out hb); replace BK403 := Aside0.mk (blk_belowB BK403.out hb); replace HB := Aside0.mk (below_step hbk hb); (try clear hb); (try clear hb2); (try clear hk); (try clear hi)))
    go_meet
    case rel => exact ⟨_, (true), (by first | rfl | (simp; done) | (simp [*]; done)), H', ⟨by first | omega | exact Nat.le_refl _⟩, ⟨by (with_reducible repeat (first | refine blk_drewN ?_ _ | refine blk_drew ?_ | refine blk_alloc ?_ _)); exact BK401.out⟩, ⟨by (with_reducible repeat (first | refine blk_drewN ?_ _ | refine blk_drew ?_ | refine blk_alloc ?_ _)); exact BK402.out⟩, ⟨by (with_reducible repeat (first | refine blk_drewN ?_ _ | refine blk_drew ?_ | refine blk_alloc ?_ _)); exact BK403.out⟩, ⟨hbk⟩⟩
  ·replace c9 := Bool.eq_false_iff.mpr c9
   subst c9
   have H1 : (pairinglaw15_MeasureOrders.j0 k true a0_0 l0_1 a1_0 l1_1 a2_0 l2_1) = some r := by rw [if_neg (show ¬ (false = true) by decide)] at H; exact H
   clear H
   have H := H1
   clear H1
   have H' := Aside0.mk H
   clear H
   have hnb29 := NB401_402.out
   have hnc29 := NB402_401.out
   have hnb30 := NB401_403.out
   have hnc30 := NB403_401.out
   obtain ⟨hcz31_0, hcz31_1⟩ := blk_cs2 BK401.out
   obtain ⟨hfz31_0, hfz31_1⟩ := blk_fs2 BK401.out
   go_wp2_with (first | ((with_reducible refine gate_callee (f := 10) rfl ?_); refine goesL_ (some 13) rfl rfl Tryz.func10 (by kernel_rfl) rfl #[.agg #[.string a0_0, .slice A0_1 l0_1.length c0_1]] rfl hgl ?_; (with_reducible refine (pairinglaw15_LightPairing.calls k a0_0 _ _ l0_1 false _ ?side1 ?side2 A8.out).mono ?_); (case side1 => exact Kd.C_below HR0_1.out hbk); (case side2 => exact HC0_1.out); rintro e w32 ⟨rfl, hb⟩; refine ⟨_, rfl, ?_⟩; replace BK401 := Aside0.mk (blk_belowB BK401.out hb); replace BK402 := Aside0.mk (blk_belowB BK402.out hb); replace BK403 := Aside0.mk (blk_belowB BK403.out hb); replace HB := Aside0.mk (below_step hbk hb); (try clear hb); (try clear hb2); (try clear hk); (try clear hi)))
   go_meet
   case rel => exact ⟨_, (true), (by first | rfl | (simp; done) | (simp [*]; done)), H', ⟨by first | omega | exact Nat.le_refl _⟩, ⟨by (with_reducible repeat (first | refine blk_drewN ?_ _ | refine blk_drew ?_ | refine blk_alloc ?_ _)); exact BK401.out⟩, ⟨by (with_reducible repeat (first | refine blk_drewN ?_ _ | refine blk_drew ?_ | refine blk_alloc ?_ _)); exact BK402.out⟩, ⟨by (with_reducible repeat (first | refine blk_drewN ?_ _ | refine blk_drew ?_ | refine blk_alloc ?_ _)); exact BK403.out⟩, ⟨hbk⟩⟩
 case rest =>
  clear HC4
  try clear c1
  try clear c2
  try clear p2
  try clear c3
  try clear c5
  try clear c9
  try clear c10
  try clear c11
  try clear c13
  try clear c14
  try clear c17
  try clear c22
  try clear c23
  try clear c26
  try clear c29
  try clear c30
  try clear hcz15_0
  try clear hcz15_1
  try clear hcz18_0
  try clear hcz18_1
  try clear hcz20_0
  try clear hcz20_1
  try clear hcz24_0
  try clear hcz24_1
  try clear hcz27_0
  try clear hcz27_1
  try clear hcz31_0
  try clear hcz31_1
  try clear hfz15_0
  try clear hfz15_1
  try clear hfz18_0
  try clear hfz18_1
  try clear hfz20_0
  try clear hfz20_1
  try clear hfz24_0
  try clear hfz24_1
  try clear hfz27_0
  try clear hfz27_1
  try clear hfz31_0
  try clear hfz31_1
  obtain ⟨kq, x24_3, rfl, HA, HJ3, BK401, BK402, BK403, HB⟩ := hcut
  cases kq with
  | zero => exact absurd HA.out (by simp [pairinglaw15_MeasureOrders.j0])
  | succ kj3 =>
   have H := HA.out
   clear HA
   simp only [pairinglaw15_MeasureOrders.j0] at H
   by_cases c33 : x24_3 = true
   ·subst c33
    have H1 : ((pairinglaw15_awake.f kj3).bind fun t407 => (some t407)) = some r := by rw [if_pos rfl] at H; exact H
    clear H
    have H := H1
    clear H1
    replace H := Option.bind_eq_some_iff.mp H
    obtain ⟨t407, A340, H⟩ := H
    replace H : (some t407) = some r := H
    have A34 := Aside0.mk A340
    clear A340
    obtain rfl := Option.some.inj H
    go_wp2_with (first | ((with_reducible refine gate_callee (f := 6) rfl ?_); refine goesL_ (some 25) rfl rfl Tryz.func6 (by kernel_rfl) rfl #[] rfl hgl ?_; (with_reducible refine (pairinglaw15_awake.calls (hGL0 := ?sideGL) kj3  t407 _ A34.out).mono ?_); (case sideGL => exact gl_below HGL.out hbk); rintro e w35 ⟨rfl, hb⟩; refine ⟨_, rfl, ?_⟩; replace BK401 := Aside0.mk (blk_belowB BK401.out hb); replace BK402 := Aside0.mk (blk_belowB BK402.out hb); replace BK403 := Aside0.mk (blk_belowB BK403.out hb); replace HB := Aside0.mk (below_step hbk hb); (try clear hb); (try clear hb2); (try clear hk); (try clear hi)))
    go_ret
    exact ⟨hrf, hbk⟩
   ·replace c33 := Bool.eq_false_iff.mpr c33
    subst c33
    have H1 : ((measure_ComparePairings.f kj3 a0_0 l0_1 a1_0 l1_1).bind fun t408 => ((measure_ComparePairings.f kj3 a1_0 l1_1 a2_0 l2_1).bind fun t409 => ((measure_ComparePairings.f kj3 a0_0 l0_1 a2_0 l2_1).bind fun t410 => ((pairingref14_ComparePairings.f kj3 a0_0 l0_1 a1_0 l1_1).bind fun t411 => (if t408 = t411 then ((measure_ComparePairings.f kj3 a1_0 l1_1 a0_0 l0_1).bind fun t412 => (if t412 = (wrap64 (-t408)) then ((measure_ComparePairings.f kj3 a0_0 l0_1 a0_0 l0_1).bind fun t413 => (if t413 = 0 then (if t408 ≤ 0 then (if t409 ≤ 0 then (pairinglaw15_MeasureOrders.j1 kj3 (decide (t410 > 0)) a0_0 l0_1 a1_0 l1_1) else (pairinglaw15_MeasureOrders.j1 kj3 false a0_0 l0_1 a1_0 l1_1)) else (pairinglaw15_MeasureOrders.j1 kj3 false a0_0 l0_1 a1_0 l1_1)) else (pairinglaw15_MeasureOrders.j1 kj3 true a0_0 l0_1 a1_0 l1_1))) else (pairinglaw15_MeasureOrders.j1 kj3 true a0_0 l0_1 a1_0 l1_1))) else (pairinglaw15_MeasureOrders.j1 kj3 true a0_0 l0_1 a1_0 l1_1)))))) = some r := by rw [if_neg (show ¬ (false = true) by decide)] at H; exact H
    clear H
    have H := H1
    clear H1
    replace H := Option.bind_eq_some_iff.mp H
    obtain ⟨t408, A360, H⟩ := H
    replace H : ((measure_ComparePairings.f kj3 a1_0 l1_1 a2_0 l2_1).bind fun t409 => ((measure_ComparePairings.f kj3 a0_0 l0_1 a2_0 l2_1).bind fun t410 => ((pairingref14_ComparePairings.f kj3 a0_0 l0_1 a1_0 l1_1).bind fun t411 => (if t408 = t411 then ((measure_ComparePairings.f kj3 a1_0 l1_1 a0_0 l0_1).bind fun t412 => (if t412 = (wrap64 (-t408)) then ((measure_ComparePairings.f kj3 a0_0 l0_1 a0_0 l0_1).bind fun t413 => (if t413 = 0 then (if t408 ≤ 0 then (if t409 ≤ 0 then (pairinglaw15_MeasureOrders.j1 kj3 (decide (t410 > 0)) a0_0 l0_1 a1_0 l1_1) else (pairinglaw15_MeasureOrders.j1 kj3 false a0_0 l0_1 a1_0 l1_1)) else (pairinglaw15_MeasureOrders.j1 kj3 false a0_0 l0_1 a1_0 l1_1)) else (pairinglaw15_MeasureOrders.j1 kj3 true a0_0 l0_1 a1_0 l1_1))) else (pairinglaw15_MeasureOrders.j1 kj3 true a0_0 l0_1 a1_0 l1_1))) else (pairinglaw15_MeasureOrders.j1 kj3 true a0_0 l0_1 a1_0 l1_1))))) = some r := H
    have A36 := Aside0.mk A360
    clear A360
    replace H := Option.bind_eq_some_iff.mp H
    obtain ⟨t409, A370, H⟩ := H
    replace H : ((measure_ComparePairings.f kj3 a0_0 l0_1 a2_0 l2_1).bind fun t410 => ((pairingref14_ComparePairings.f kj3 a0_0 l0_1 a1_0 l1_1).bind fun t411 => (if t408 = t411 then ((measure_ComparePairings.f kj3 a1_0 l1_1 a0_0 l0_1).bind fun t412 => (if t412 = (wrap64 (-t408)) then ((measure_ComparePairings.f kj3 a0_0 l0_1 a0_0 l0_1).bind fun t413 => (if t413 = 0 then (if t408 ≤ 0 then (if t409 ≤ 0 then (pairinglaw15_MeasureOrders.j1 kj3 (decide (t410 > 0)) a0_0 l0_1 a1_0 l1_1) else (pairinglaw15_MeasureOrders.j1 kj3 false a0_0 l0_1 a1_0 l1_1)) else (pairinglaw15_MeasureOrders.j1 kj3 false a0_0 l0_1 a1_0 l1_1)) else (pairinglaw15_MeasureOrders.j1 kj3 true a0_0 l0_1 a1_0 l1_1))) else (pairinglaw15_MeasureOrders.j1 kj3 true a0_0 l0_1 a1_0 l1_1))) else (pairinglaw15_MeasureOrders.j1 kj3 true a0_0 l0_1 a1_0 l1_1)))) = some r := H
    have A37 := Aside0.mk A370
    clear A370
    replace H := Option.bind_eq_some_iff.mp H
    obtain ⟨t410, A380, H⟩ := H
    replace H : ((pairingref14_ComparePairings.f kj3 a0_0 l0_1 a1_0 l1_1).bind fun t411 => (if t408 = t411 then ((measure_ComparePairings.f kj3 a1_0 l1_1 a0_0 l0_1).bind fun t412 => (if t412 = (wrap64 (-t408)) then ((measure_ComparePairings.f kj3 a0_0 l0_1 a0_0 l0_1).bind fun t413 => (if t413 = 0 then (if t408 ≤ 0 then (if t409 ≤ 0 then (pairinglaw15_MeasureOrders.j1 kj3 (decide (t410 > 0)) a0_0 l0_1 a1_0 l1_1) else (pairinglaw15_MeasureOrders.j1 kj3 false a0_0 l0_1 a1_0 l1_1)) else (pairinglaw15_MeasureOrders.j1 kj3 false a0_0 l0_1 a1_0 l1_1)) else (pairinglaw15_MeasureOrders.j1 kj3 true a0_0 l0_1 a1_0 l1_1))) else (pairinglaw15_MeasureOrders.j1 kj3 true a0_0 l0_1 a1_0 l1_1))) else (pairinglaw15_MeasureOrders.j1 kj3 true a0_0 l0_1 a1_0 l1_1))) = some r := H
    have A38 := Aside0.mk A380
    clear A380
    have HC39 := Aside0.mk H
    clear H
    try go_wp2
    replace BK401 := Aside0.mk (blk_drew BK401.out)
    replace BK402 := Aside0.mk (blk_drew BK402.out)
    replace BK403 := Aside0.mk (blk_drew BK403.out)
    replace HB := Aside0.mk (below_drew1 HB.out)
    have HSo0 := Aside0.mk (held_of3 BK401.out BK402.out BK403.out (S := fun w' => w'.cell? ⟨gb401, 0, none⟩ = some (.string a0_0) ∧ w'.cell? ⟨gb401, 1, none⟩ = some (.slice A0_1 l0_1.length c0_1) ∧ w'.cell? ⟨gb402, 0, none⟩ = some (.string a1_0) ∧ w'.cell? ⟨gb402, 1, none⟩ = some (.slice A1_1 l1_1.length c1_1) ∧ w'.cell? ⟨gb403, 0, none⟩ = some (.string a2_0) ∧ w'.cell? ⟨gb403, 1, none⟩ = some (.slice A2_1 l2_1.length c2_1)) (fun X hBK401 hBK402 hBK403 => ⟨(blk_cell hBK401 0).trans rfl, (blk_cell hBK401 1).trans rfl, (blk_cell hBK402 0).trans rfl, (blk_cell hBK402 1).trans rfl, (blk_cell hBK403 0).trans rfl, (blk_cell hBK403 1).trans rfl⟩))
    refine start_ (n := 12) (S := fun w' => w'.cell? ⟨gb401, 0, none⟩ = some (.string a0_0) ∧ w'.cell? ⟨gb401, 1, none⟩ = some (.slice A0_1 l0_1.length c0_1) ∧ w'.cell? ⟨gb402, 0, none⟩ = some (.string a1_0) ∧ w'.cell? ⟨gb402, 1, none⟩ = some (.slice A1_1 l1_1.length c1_1) ∧ w'.cell? ⟨gb403, 0, none⟩ = some (.string a2_0) ∧ w'.cell? ⟨gb403, 1, none⟩ = some (.slice A2_1 l2_1.length c2_1)) (ds := []) #[false, false, false, false, false, false, false, false, false, false, false, false] (by kernel_rfl) rfl rfl (HSo0.out _ BK401.out BK402.out BK403.out) (fun hHeld => ?_); refine with_tabW pairinglaw15_MeasureOrders.tab3 pairinglaw15_MeasureOrders.bits3 (fun HT_ HW_ => ?_)
    generalize wc.drew = w40 at BK401 BK402 BK403 HB hHeld ⊢
    refine take_ (i := 0) (N := some 26) (v := ?_) (a' := ?_) #[true, false, false, false, false, false, false, false, false, false, false, false] rfl rfl (take_ofW HT_.out HW_.out (by kernel_rfl)) (fun _ _ _ h => h) (Or.inl ⟨by rfl, ?_⟩) hHeld ?_ ?_
    rotate_left
    ·rintro w' ⟨s0, s1, s2, s3, s4, s5⟩
     go_simp
     with_reducible rfl
    rotate_left
    ·simp only [Act.put, List.setIfInBounds_toArray, List.set_cons_zero, List.set_cons_succ, i64_w, i32_w]
     rfl
    refine take_ (i := 1) (N := some 27) (v := ?_) (a' := ?_) #[true, true, false, false, false, false, false, false, false, false, false, false] rfl rfl (take_ofW HT_.out HW_.out (by kernel_rfl)) (fun _ _ _ h => h) (Or.inl ⟨by rfl, ?_⟩) hHeld ?_ ?_
    rotate_left
    ·rintro w' ⟨s0, s1, s2, s3, s4, s5⟩
     go_simp
     with_reducible rfl
    rotate_left
    ·simp only [Act.put, List.setIfInBounds_toArray, List.set_cons_zero, List.set_cons_succ, i64_w, i32_w]
     rfl
    refine take_ (i := 3) (N := some 29) (v := ?_) (a' := ?_) #[true, true, false, true, false, false, false, false, false, false, false, false] rfl rfl (take_ofW HT_.out HW_.out (by kernel_rfl)) (fun _ _ _ h => h) (Or.inl ⟨by rfl, ?_⟩) hHeld ?_ ?_
    rotate_left
    ·rintro w' ⟨s0, s1, s2, s3, s4, s5⟩
     go_simp
     with_reducible rfl
    rotate_left
    ·simp only [Act.put, List.setIfInBounds_toArray, List.set_cons_zero, List.set_cons_succ, i64_w, i32_w]
     rfl
    refine take_ (i := 4) (N := some 30) (v := ?_) (a' := ?_) #[true, true, false, true, true, false, false, false, false, false, false, false] rfl rfl (take_ofW HT_.out HW_.out (by kernel_rfl)) (fun _ _ _ h => h) (Or.inl ⟨by rfl, ?_⟩) hHeld ?_ ?_
    rotate_left
    ·rintro w' ⟨s0, s1, s2, s3, s4, s5⟩
     go_simp
     with_reducible rfl
    rotate_left
    ·simp only [Act.put, List.setIfInBounds_toArray, List.set_cons_zero, List.set_cons_succ, i64_w, i32_w]
     rfl
    refine take_ (i := 6) (N := some 32) (v := ?_) (a' := ?_) #[true, true, false, true, true, false, true, false, false, false, false, false] rfl rfl (take_ofW HT_.out HW_.out (by kernel_rfl)) (fun _ _ _ h => h) (Or.inl ⟨by rfl, ?_⟩) hHeld ?_ ?_
    rotate_left
    ·rintro w' ⟨s0, s1, s2, s3, s4, s5⟩
     go_simp
     with_reducible rfl
    rotate_left
    ·simp only [Act.put, List.setIfInBounds_toArray, List.set_cons_zero, List.set_cons_succ, i64_w, i32_w]
     rfl
    refine take_ (i := 7) (N := some 33) (v := ?_) (a' := ?_) #[true, true, false, true, true, false, true, true, false, false, false, false] rfl rfl (take_ofW HT_.out HW_.out (by kernel_rfl)) (fun _ _ _ h => h) (Or.inl ⟨by rfl, ?_⟩) hHeld ?_ ?_
    rotate_left
    ·rintro w' ⟨s0, s1, s2, s3, s4, s5⟩
     go_simp
     with_reducible rfl
    rotate_left
    ·simp only [Act.put, List.setIfInBounds_toArray, List.set_cons_zero, List.set_cons_succ, i64_w, i32_w]
     rfl
    refine one_ (i := 2) (N := some 28) #[true, true, true, true, true, false, true, true, false, false, false, false] rfl rfl (one_of HT_.out (by kernel_rfl)) (by decide) (fun K hK => ?_)
    refine goes_ Tryz.func13 (by kernel_rfl) rfl #[.agg #[.string a0_0, .slice A0_1 l0_1.length c0_1], .agg #[.string a1_0, .slice A1_1 l1_1.length c1_1]] (by rfl) rfl rfl hgl ?_
    with_reducible refine (measure_ComparePairings.calls kj3 a0_0 _ _ l0_1 a1_0 _ _ l1_1 t408 _ ?side1 ?side2 ?side3 ?side4 A36.out).mono ?_
    (case side1 => exact Kd.C_below HR0_1.out hbk)
    (case side2 => exact HC0_1.out)
    (case side3 => exact Kd.C_below HR1_1.out hbk)
    (case side4 => exact HC1_1.out)
    rintro e w41 ⟨rfl, hb⟩
    refine ⟨_, rfl, ?_⟩
    replace BK401 := Aside0.mk (blk_belowB BK401.out hb)
    replace BK402 := Aside0.mk (blk_belowB BK402.out hb)
    replace BK403 := Aside0.mk (blk_belowB BK403.out hb)
    replace HB := Aside0.mk (below_step hbk hb)
    (try clear hb)
    (try clear hb2)
    (try clear hk)
    (try clear hi)
    refine hK.out _ _ (HSo0.out _ BK401.out BK402.out BK403.out) (fun hHeld => ?_)
    clear hK K
    refine norm_ (a' := ?_) ?_ ?_
    rotate_left
    ·show Act.put _ (some 28) _ = _
     simp only [Act.put, List.setIfInBounds_toArray, List.set_cons_zero, List.set_cons_succ, i64_w, i32_w]
     rfl
    refine one_ (i := 5) (N := some 31) #[true, true, true, true, true, true, true, true, false, false, false, false] rfl rfl (one_of HT_.out (by kernel_rfl)) (by decide) (fun K hK => ?_)
    refine goes_ Tryz.func13 (by kernel_rfl) rfl #[.agg #[.string a1_0, .slice A1_1 l1_1.length c1_1], .agg #[.string a2_0, .slice A2_1 l2_1.length c2_1]] (by rfl) rfl rfl hgl ?_
    with_reducible refine (measure_ComparePairings.calls kj3 a1_0 _ _ l1_1 a2_0 _ _ l2_1 t409 _ ?side1 ?side2 ?side3 ?side4 A37.out).mono ?_
    (case side1 => exact Kd.C_below HR1_1.out hbk)
    (case side2 => exact HC1_1.out)
    (case side3 => exact Kd.C_below HR2_1.out hbk)
    (case side4 => exact HC2_1.out)
    rintro e w42 ⟨rfl, hb⟩
    refine ⟨_, rfl, ?_⟩
    replace BK401 := Aside0.mk (blk_belowB BK401.out hb)
    replace BK402 := Aside0.mk (blk_belowB BK402.out hb)
    replace BK403 := Aside0.mk (blk_belowB BK403.out hb)
    replace HB := Aside0.mk (below_step hbk hb)
    (try clear hb)
    (try clear hb2)
    (try clear hk)
    (try clear hi)
    refine hK.out _ _ (HSo0.out _ BK401.out BK402.out BK403.out) (fun hHeld => ?_)
    clear hK K
    refine norm_ (a' := ?_) ?_ ?_
    rotate_left
    ·show Act.put _ (some 31) _ = _
     simp only [Act.put, List.setIfInBounds_toArray, List.set_cons_zero, List.set_cons_succ, i64_w, i32_w]
     rfl
    refine one_ (i := 8) (N := some 34) #[true, true, true, true, true, true, true, true, true, false, false, false] rfl rfl (one_of HT_.out (by kernel_rfl)) (by decide) (fun K hK => ?_)
    refine goes_ Tryz.func13 (by kernel_rfl) rfl #[.agg #[.string a0_0, .slice A0_1 l0_1.length c0_1], .agg #[.string a2_0, .slice A2_1 l2_1.length c2_1]] (by rfl) rfl rfl hgl ?_
    with_reducible refine (measure_ComparePairings.calls kj3 a0_0 _ _ l0_1 a2_0 _ _ l2_1 t410 _ ?side1 ?side2 ?side3 ?side4 A38.out).mono ?_
    (case side1 => exact Kd.C_below HR0_1.out hbk)
    (case side2 => exact HC0_1.out)
    (case side3 => exact Kd.C_below HR2_1.out hbk)
    (case side4 => exact HC2_1.out)
    rintro e w43 ⟨rfl, hb⟩
    refine ⟨_, rfl, ?_⟩
    replace BK401 := Aside0.mk (blk_belowB BK401.out hb)
    replace BK402 := Aside0.mk (blk_belowB BK402.out hb)
    replace BK403 := Aside0.mk (blk_belowB BK403.out hb)
    replace HB := Aside0.mk (below_step hbk hb)
    (try clear hb)
    (try clear hb2)
    (try clear hk)
    (try clear hi)
    refine hK.out _ _ (HSo0.out _ BK401.out BK402.out BK403.out) (fun hHeld => ?_)
    clear hK K
    refine norm_ (a' := ?_) ?_ ?_
    rotate_left
    ·show Act.put _ (some 34) _ = _
     simp only [Act.put, List.setIfInBounds_toArray, List.set_cons_zero, List.set_cons_succ, i64_w, i32_w]
     rfl
    refine pure_ (i := 9) (N := some 7) (v := ?_) (a' := ?_) #[true, true, true, true, true, true, true, true, true, true, false, false] rfl rfl (any_of HT_.out (by kernel_rfl)) (fun _ _ _ h => h) (Or.inl ⟨by rfl, ?_⟩) ?_ ?_
    rotate_left
    ·intro w'
     go_simp
     with_reducible rfl
    rotate_left
    ·simp only [Act.put, List.setIfInBounds_toArray, List.set_cons_zero, List.set_cons_succ, i64_w, i32_w]
     rfl
    refine pure_ (i := 10) (N := some 8) (v := ?_) (a' := ?_) #[true, true, true, true, true, true, true, true, true, true, true, false] rfl rfl (any_of HT_.out (by kernel_rfl)) (fun _ _ _ h => h) (Or.inl ⟨by rfl, ?_⟩) ?_ ?_
    rotate_left
    ·intro w'
     go_simp
     with_reducible rfl
    rotate_left
    ·simp only [Act.put, List.setIfInBounds_toArray, List.set_cons_zero, List.set_cons_succ, i64_w, i32_w]
     rfl
    refine pure_ (i := 11) (N := some 9) (v := ?_) (a' := ?_) #[true, true, true, true, true, true, true, true, true, true, true, true] rfl rfl (any_of HT_.out (by kernel_rfl)) (fun _ _ _ h => h) (Or.inl ⟨by rfl, ?_⟩) ?_ ?_
    rotate_left
    ·intro w'
     go_simp
     with_reducible rfl
    rotate_left
    ·simp only [Act.put, List.setIfInBounds_toArray, List.set_cons_zero, List.set_cons_succ, i64_w, i32_w]
     rfl
    refine done_ (done_of HT_.out (by kernel_rfl)) ?_
    go_upto_region 4 with (fail)
    go_cut [65] (fun v65 wc => ∃ (kq : Nat) (x65_38 : Bool), v65 = .bool x65_38 ∧ Aside0 (pairinglaw15_MeasureOrders.j1 kq x65_38 a0_0 l0_1 a1_0 l1_1 = some r) ∧ Aside0 (kq ≤ kj3) ∧ Aside0 (wc.heap[gb401]? = some (.cells #[.string a0_0, (.slice A0_1 l0_1.length c0_1)] 43 (0, 0))) ∧ Aside0 (wc.heap[gb402]? = some (.cells #[.string a1_0, (.slice A1_1 l1_1.length c1_1)] 43 (0, 0))) ∧ Aside0 (wc.heap[gb403]? = some (.cells #[.string a2_0, (.slice A2_1 l2_1.length c2_1)] 43 (0, 0))) ∧ Aside0 (Below w.heap.size w wc))
    case first =>
     have H := HC39.out
     clear HC39
     replace H := Option.bind_eq_some_iff.mp H
     obtain ⟨t411, A440, H⟩ := H
     replace H : (if t408 = t411 then ((measure_ComparePairings.f kj3 a1_0 l1_1 a0_0 l0_1).bind fun t412 => (if t412 = (wrap64 (-t408)) then ((measure_ComparePairings.f kj3 a0_0 l0_1 a0_0 l0_1).bind fun t413 => (if t413 = 0 then (if t408 ≤ 0 then (if t409 ≤ 0 then (pairinglaw15_MeasureOrders.j1 kj3 (decide (t410 > 0)) a0_0 l0_1 a1_0 l1_1) else (pairinglaw15_MeasureOrders.j1 kj3 false a0_0 l0_1 a1_0 l1_1)) else (pairinglaw15_MeasureOrders.j1 kj3 false a0_0 l0_1 a1_0 l1_1)) else (pairinglaw15_MeasureOrders.j1 kj3 true a0_0 l0_1 a1_0 l1_1))) else (pairinglaw15_MeasureOrders.j1 kj3 true a0_0 l0_1 a1_0 l1_1))) else (pairinglaw15_MeasureOrders.j1 kj3 true a0_0 l0_1 a1_0 l1_1)) = some r := H
     have A44 := Aside0.mk A440
     clear A440
     by_cases c45 : t408 = t411
     ·rw [if_pos c45] at H
      have c45b0 : (t408 == t411) = true := beq_iff_eq.mpr c45
      have c45b1 : (t408 != t411) = false := bne_eq_false_iff_eq.mpr c45
      clear c45
      (first | rw [c45b0] | (simp only [i64_w, i32_w]; rw [c45b0]) | skip)
      replace H := Option.bind_eq_some_iff.mp H
      obtain ⟨t412, A460, H⟩ := H
      replace H : (if t412 = (wrap64 (-t408)) then ((measure_ComparePairings.f kj3 a0_0 l0_1 a0_0 l0_1).bind fun t413 => (if t413 = 0 then (if t408 ≤ 0 then (if t409 ≤ 0 then (pairinglaw15_MeasureOrders.j1 kj3 (decide (t410 > 0)) a0_0 l0_1 a1_0 l1_1) else (pairinglaw15_MeasureOrders.j1 kj3 false a0_0 l0_1 a1_0 l1_1)) else (pairinglaw15_MeasureOrders.j1 kj3 false a0_0 l0_1 a1_0 l1_1)) else (pairinglaw15_MeasureOrders.j1 kj3 true a0_0 l0_1 a1_0 l1_1))) else (pairinglaw15_MeasureOrders.j1 kj3 true a0_0 l0_1 a1_0 l1_1)) = some r := H
      have A46 := Aside0.mk A460
      clear A460
      by_cases c47 : t412 = (wrap64 (-t408))
      ·rw [if_pos c47] at H
       have c47b0 : (t412 == (wrap64 (-t408))) = true := beq_iff_eq.mpr c47
       have c47b1 : (t412 != (wrap64 (-t408))) = false := bne_eq_false_iff_eq.mpr c47
       clear c47
       replace H := Option.bind_eq_some_iff.mp H
       obtain ⟨t413, A480, H⟩ := H
       replace H : (if t413 = 0 then (if t408 ≤ 0 then (if t409 ≤ 0 then (pairinglaw15_MeasureOrders.j1 kj3 (decide (t410 > 0)) a0_0 l0_1 a1_0 l1_1) else (pairinglaw15_MeasureOrders.j1 kj3 false a0_0 l0_1 a1_0 l1_1)) else (pairinglaw15_MeasureOrders.j1 kj3 false a0_0 l0_1 a1_0 l1_1)) else (pairinglaw15_MeasureOrders.j1 kj3 true a0_0 l0_1 a1_0 l1_1)) = some r := H
       have A48 := Aside0.mk A480
       clear A480
       by_cases c49 : t413 = 0
       ·rw [if_pos c49] at H
        have c49b0 : (t413 == 0) = true := beq_iff_eq.mpr c49
        have c49b1 : (t413 != 0) = false := bne_eq_false_iff_eq.mpr c49
        clear c49
        by_cases c50 : t408 ≤ 0
        ·rw [if_pos c50] at H
         have c50b0 : decide (t408 ≤ 0) = true := decide_eq_true c50
         clear c50
         by_cases c51 : t409 ≤ 0
         ·rw [if_pos c51] at H
          have c51b0 : decide (t409 ≤ 0) = true := decide_eq_true c51
          clear c51
          have H' := Aside0.mk H
          clear H
          have hnb52 := NB401_402.out
          have hnc52 := NB402_401.out
          have hnb53 := NB401_403.out
          have hnc53 := NB403_401.out
          obtain ⟨hcz54_0, hcz54_1⟩ := blk_cs2 BK401.out
          obtain ⟨hfz54_0, hfz54_1⟩ := blk_fs2 BK401.out
          have hnb55 := NB402_403.out
          have hnc55 := NB403_402.out
          obtain ⟨hcz56_0, hcz56_1⟩ := blk_cs2 BK402.out
          obtain ⟨hfz56_0, hfz56_1⟩ := blk_fs2 BK402.out
          go_wp2_with (first | ((with_reducible refine gate_callee (f := 14) rfl ?_); refine goesL_ (some 38) rfl rfl Tryz.func14 (by kernel_rfl) rfl #[.agg #[.string a0_0, .slice A0_1 l0_1.length c0_1], .agg #[.string a1_0, .slice A1_1 l1_1.length c1_1]] rfl hgl ?_; (with_reducible refine (pairingref14_ComparePairings.calls kj3 a0_0 _ _ l0_1 a1_0 _ _ l1_1 t411 _ ?side1 ?side2 ?side3 ?side4 A44.out).mono ?_); (case side1 => exact Kd.C_below HR0_1.out hbk); (case side2 => exact HC0_1.out); (case side3 => exact Kd.C_below HR1_1.out hbk); (case side4 => exact HC1_1.out); rintro e w57 ⟨rfl, hb⟩; refine ⟨_, rfl, ?_⟩; replace BK401 := Aside0.mk (blk_belowB BK401.out hb); replace BK402 := Aside0.mk (blk_belowB BK402.out hb); replace BK403 := Aside0.mk (blk_belowB BK403.out hb); replace HB := Aside0.mk (below_step hbk hb); (try clear hb); (try clear hb2); (try clear hk); (try clear hi); obtain ⟨hcz58_0, hcz58_1⟩ := blk_cs2 BK402.out; obtain ⟨hfz58_0, hfz58_1⟩ := blk_fs2 BK402.out; obtain ⟨hcz59_0, hcz59_1⟩ := blk_cs2 BK401.out; obtain ⟨hfz59_0, hfz59_1⟩ := blk_fs2 BK401.out) | (go_at_call 13; (with_reducible refine (measure_ComparePairings.calls kj3 a1_0 _ _ l1_1 a0_0 _ _ l0_1 t412 _ ?side1 ?side2 ?side3 ?side4 A46.out).mono ?_); (case side1 => exact Kd.C_below HR1_1.out hbk); (case side2 => exact HC1_1.out); (case side3 => exact Kd.C_below HR0_1.out hbk); (case side4 => exact HC0_1.out); rintro e w60 ⟨rfl, hb⟩; replace BK401 := Aside0.mk (blk_belowB BK401.out hb); replace BK402 := Aside0.mk (blk_belowB BK402.out hb); replace BK403 := Aside0.mk (blk_belowB BK403.out hb); replace HB := Aside0.mk (below_step hbk hb); (try clear hb); (try clear hb2); (try clear hk); (try clear hi); obtain ⟨hcz61_0, hcz61_1⟩ := blk_cs2 BK401.out; obtain ⟨hfz61_0, hfz61_1⟩ := blk_fs2 BK401.out) | (go_at_call 13; (with_reducible refine (measure_ComparePairings.calls kj3 a0_0 _ _ l0_1 a0_0 _ _ l0_1 t413 _ ?side1 ?side2 ?side3 ?side4 A48.out).mono ?_); (case side1 => exact Kd.C_below HR0_1.out hbk); (case side2 => exact HC0_1.out); (case side3 => exact Kd.C_below HR0_1.out hbk); (case side4 => exact HC0_1.out); rintro e w62 ⟨rfl, hb⟩; replace BK401 := Aside0.mk (blk_belowB BK401.out hb); replace BK402 := Aside0.mk (blk_belowB BK402.out hb); replace BK403 := Aside0.mk (blk_belowB BK403.out hb); replace HB := Aside0.mk (below_step hbk hb); (try clear hb); (try clear hb2); (try clear hk); (try clear hi)))
          go_meet
          case rel => exact ⟨_, (decide (t410 > 0)), (by first | rfl | (simp; done) | (simp [*]; done)), H', ⟨by have := HJ3.out; first | omega | exact Nat.le_refl _⟩, ⟨by (with_reducible repeat (first | refine blk_drewN ?_ _ | refine blk_drew ?_ | refine blk_alloc ?_ _)); exact BK401.out⟩, ⟨by (with_reducible repeat (first | refine blk_drewN ?_ _ | refine blk_drew ?_ | refine blk_alloc ?_ _)); exact BK402.out⟩, ⟨by (with_reducible repeat (first | refine blk_drewN ?_ _ | refine blk_drew ?_ | refine blk_alloc ?_ _)); exact BK403.out⟩, ⟨hbk⟩⟩
         ·rw [if_neg c51] at H
          have c51b0 : decide (t409 ≤ 0) = false := decide_eq_false c51
          clear c51
          have H' := Aside0.mk H
          clear H
          have hnb63 := NB401_402.out
          have hnc63 := NB402_401.out
          have hnb64 := NB401_403.out
          have hnc64 := NB403_401.out
          obtain ⟨hcz65_0, hcz65_1⟩ := blk_cs2 BK401.out
          obtain ⟨hfz65_0, hfz65_1⟩ := blk_fs2 BK401.out
          have hnb66 := NB402_403.out
          have hnc66 := NB403_402.out
          obtain ⟨hcz67_0, hcz67_1⟩ := blk_cs2 BK402.out
          obtain ⟨hfz67_0, hfz67_1⟩ := blk_fs2 BK402.out
          go_wp2_with (first | ((with_reducible refine gate_callee (f := 14) rfl ?_); refine goesL_ (some 38) rfl rfl Tryz.func14 (by kernel_rfl) rfl #[.agg #[.string a0_0, .slice A0_1 l0_1.length c0_1], .agg #[.string a1_0, .slice A1_1 l1_1.length c1_1]] rfl hgl ?_; (with_reducible refine (pairingref14_ComparePairings.calls kj3 a0_0 _ _ l0_1 a1_0 _ _ l1_1 t411 _ ?side1 ?side2 ?side3 ?side4 A44.out).mono ?_); (case side1 => exact Kd.C_below HR0_1.out hbk); (case side2 => exact HC0_1.out); (case side3 => exact Kd.C_below HR1_1.out hbk); (case side4 => exact HC1_1.out); rintro e w68 ⟨rfl, hb⟩; refine ⟨_, rfl, ?_⟩; replace BK401 := Aside0.mk (blk_belowB BK401.out hb); replace BK402 := Aside0.mk (blk_belowB BK402.out hb); replace BK403 := Aside0.mk (blk_belowB BK403.out hb); replace HB := Aside0.mk (below_step hbk hb); (try clear hb); (try clear hb2); (try clear hk); (try clear hi); obtain ⟨hcz69_0, hcz69_1⟩ := blk_cs2 BK402.out; obtain ⟨hfz69_0, hfz69_1⟩ := blk_fs2 BK402.out; obtain ⟨hcz70_0, hcz70_1⟩ := blk_cs2 BK401.out; obtain ⟨hfz70_0, hfz70_1⟩ := blk_fs2 BK401.out) | (go_at_call 13; (with_reducible refine (measure_ComparePairings.calls kj3 a1_0 _ _ l1_1 a0_0 _ _ l0_1 t412 _ ?side1 ?side2 ?side3 ?side4 A46.out).mono ?_); (case side1 => exact Kd.C_below HR1_1.out hbk); (case side2 => exact HC1_1.out); (case side3 => exact Kd.C_below HR0_1.out hbk); (case side4 => exact HC0_1.out); rintro e w71 ⟨rfl, hb⟩; replace BK401 := Aside0.mk (blk_belowB BK401.out hb); replace BK402 := Aside0.mk (blk_belowB BK402.out hb); replace BK403 := Aside0.mk (blk_belowB BK403.out hb); replace HB := Aside0.mk (below_step hbk hb); (try clear hb); (try clear hb2); (try clear hk); (try clear hi); obtain ⟨hcz72_0, hcz72_1⟩ := blk_cs2 BK401.out; obtain ⟨hfz72_0, hfz72_1⟩ := blk_fs2 BK401.out) | (go_at_call 13; (with_reducible refine (measure_ComparePairings.calls kj3 a0_0 _ _ l0_1 a0_0 _ _ l0_1 t413 _ ?side1 ?side2 ?side3 ?side4 A48.out).mono ?_); (case side1 => exact Kd.C_below HR0_1.out hbk); (case side2 => exact HC0_1.out); (case side3 => exact Kd.C_below HR0_1.out hbk); (case side4 => exact HC0_1.out); rintro e w73 ⟨rfl, hb⟩; replace BK401 := Aside0.mk (blk_belowB BK401.out hb); replace BK402 := Aside0.mk (blk_belowB BK402.out hb); replace BK403 := Aside0.mk (blk_belowB BK403.out hb); replace HB := Aside0.mk (below_step hbk hb); (try clear hb); (try clear hb2); (try clear hk); (try clear hi)))
          go_meet
          case rel => exact ⟨_, (false), (by first | rfl | (simp; done) | (simp [*]; done)), H', ⟨by have := HJ3.out; first | omega | exact Nat.le_refl _⟩, ⟨by (with_reducible repeat (first | refine blk_drewN ?_ _ | refine blk_drew ?_ | refine blk_alloc ?_ _)); exact BK401.out⟩, ⟨by (with_reducible repeat (first | refine blk_drewN ?_ _ | refine blk_drew ?_ | refine blk_alloc ?_ _)); exact BK402.out⟩, ⟨by (with_reducible repeat (first | refine blk_drewN ?_ _ | refine blk_drew ?_ | refine blk_alloc ?_ _)); exact BK403.out⟩, ⟨hbk⟩⟩
        ·rw [if_neg c50] at H
         have c50b0 : decide (t408 ≤ 0) = false := decide_eq_false c50
         clear c50
         have H' := Aside0.mk H
         clear H
         have hnb74 := NB401_402.out
         have hnc74 := NB402_401.out
         have hnb75 := NB401_403.out
         have hnc75 := NB403_401.out
         obtain ⟨hcz76_0, hcz76_1⟩ := blk_cs2 BK401.out
         obtain ⟨hfz76_0, hfz76_1⟩ := blk_fs2 BK401.out
         have hnb77 := NB402_403.out
         have hnc77 := NB403_402.out
         obtain ⟨hcz78_0, hcz78_1⟩ := blk_cs2 BK402.out
         obtain ⟨hfz78_0, hfz78_1⟩ := blk_fs2 BK402.out
         go_wp2_with (first | ((with_reducible refine gate_callee (f := 14) rfl ?_); refine goesL_ (some 38) rfl rfl Tryz.func14 (by kernel_rfl) rfl #[.agg #[.string a0_0, .slice A0_1 l0_1.length c0_1], .agg #[.string a1_0, .slice A1_1 l1_1.length c1_1]] rfl hgl ?_; (with_reducible refine (pairingref14_ComparePairings.calls kj3 a0_0 _ _ l0_1 a1_0 _ _ l1_1 t411 _ ?side1 ?side2 ?side3 ?side4 A44.out).mono ?_); (case side1 => exact Kd.C_below HR0_1.out hbk); (case side2 => exact HC0_1.out); (case side3 => exact Kd.C_below HR1_1.out hbk); (case side4 => exact HC1_1.out); rintro e w79 ⟨rfl, hb⟩; refine ⟨_, rfl, ?_⟩; replace BK401 := Aside0.mk (blk_belowB BK401.out hb); replace BK402 := Aside0.mk (blk_belowB BK402.out hb); replace BK403 := Aside0.mk (blk_belowB BK403.out hb); replace HB := Aside0.mk (below_step hbk hb); (try clear hb); (try clear hb2); (try clear hk); (try clear hi); obtain ⟨hcz80_0, hcz80_1⟩ := blk_cs2 BK402.out; obtain ⟨hfz80_0, hfz80_1⟩ := blk_fs2 BK402.out; obtain ⟨hcz81_0, hcz81_1⟩ := blk_cs2 BK401.out; obtain ⟨hfz81_0, hfz81_1⟩ := blk_fs2 BK401.out) | (go_at_call 13; (with_reducible refine (measure_ComparePairings.calls kj3 a1_0 _ _ l1_1 a0_0 _ _ l0_1 t412 _ ?side1 ?side2 ?side3 ?side4 A46.out).mono ?_); (case side1 => exact Kd.C_below HR1_1.out hbk); (case side2 => exact HC1_1.out); (case side3 => exact Kd.C_below HR0_1.out hbk); (case side4 => exact HC0_1.out); rintro e w82 ⟨rfl, hb⟩; replace BK401 := Aside0.mk (blk_belowB BK401.out hb); replace BK402 := Aside0.mk (blk_belowB BK402.out hb); replace BK403 := Aside0.mk (blk_belowB BK403.out hb); replace HB := Aside0.mk (below_step hbk hb); (try clear hb); (try clear hb2); (try clear hk); (try clear hi); obtain ⟨hcz83_0, hcz83_1⟩ := blk_cs2 BK401.out; obtain ⟨hfz83_0, hfz83_1⟩ := blk_fs2 BK401.out) | (go_at_call 13; (with_reducible refine (measure_ComparePairings.calls kj3 a0_0 _ _ l0_1 a0_0 _ _ l0_1 t413 _ ?side1 ?side2 ?side3 ?side4 A48.out).mono ?_); (case side1 => exact Kd.C_below HR0_1.out hbk); (case side2 => exact HC0_1.out); (case side3 => exact Kd.C_below HR0_1.out hbk); (case side4 => exact HC0_1.out); rintro e w84 ⟨rfl, hb⟩; replace BK401 := Aside0.mk (blk_belowB BK401.out hb); replace BK402 := Aside0.mk (blk_belowB BK402.out hb); replace BK403 := Aside0.mk (blk_belowB BK403.out hb); replace HB := Aside0.mk (below_step hbk hb); (try clear hb); (try clear hb2); (try clear hk); (try clear hi)))
         go_meet
         case rel => exact ⟨_, (false), (by first | rfl | (simp; done) | (simp [*]; done)), H', ⟨by have := HJ3.out; first | omega | exact Nat.le_refl _⟩, ⟨by (with_reducible repeat (first | refine blk_drewN ?_ _ | refine blk_drew ?_ | refine blk_alloc ?_ _)); exact BK401.out⟩, ⟨by (with_reducible repeat (first | refine blk_drewN ?_ _ | refine blk_drew ?_ | refine blk_alloc ?_ _)); exact BK402.out⟩, ⟨by (with_reducible repeat (first | refine blk_drewN ?_ _ | refine blk_drew ?_ | refine blk_alloc ?_ _)); exact BK403.out⟩, ⟨hbk⟩⟩
       ·rw [if_neg c49] at H
        have c49b0 : (t413 == 0) = false := beq_eq_false_iff_ne.mpr c49
        have c49b1 : (t413 != 0) = true := bne_iff_ne.mpr c49
        have H' := Aside0.mk H
        clear H
        have hnb85 := NB401_402.out
        have hnc85 := NB402_401.out
        have hnb86 := NB401_403.out
        have hnc86 := NB403_401.out
        obtain ⟨hcz87_0, hcz87_1⟩ := blk_cs2 BK401.out
        obtain ⟨hfz87_0, hfz87_1⟩ := blk_fs2 BK401.out
        have hnb88 := NB402_403.out
        have hnc88 := NB403_402.out
        obtain ⟨hcz89_0, hcz89_1⟩ := blk_cs2 BK402.out
        obtain ⟨hfz89_0, hfz89_1⟩ := blk_fs2 BK402.out
        go_wp2_with (first | ((with_reducible refine gate_callee (f := 14) rfl ?_); refine goesL_ (some 38) rfl rfl Tryz.func14 (by kernel_rfl) rfl #[.agg #[.string a0_0, .slice A0_1 l0_1.length c0_1], .agg #[.string a1_0, .slice A1_1 l1_1.length c1_1]] rfl hgl ?_; (with_reducible refine (pairingref14_ComparePairings.calls kj3 a0_0 _ _ l0_1 a1_0 _ _ l1_1 t411 _ ?side1 ?side2 ?side3 ?side4 A44.out).mono ?_); (case side1 => exact Kd.C_below HR0_1.out hbk); (case side2 => exact HC0_1.out); (case side3 => exact Kd.C_below HR1_1.out hbk); (case side4 => exact HC1_1.out); rintro e w90 ⟨rfl, hb⟩; refine ⟨_, rfl, ?_⟩; replace BK401 := Aside0.mk (blk_belowB BK401.out hb); replace BK402 := Aside0.mk (blk_belowB BK402.out hb); replace BK403 := Aside0.mk (blk_belowB BK403.out hb); replace HB := Aside0.mk (below_step hbk hb); (try clear hb); (try clear hb2); (try clear hk); (try clear hi); obtain ⟨hcz91_0, hcz91_1⟩ := blk_cs2 BK402.out; obtain ⟨hfz91_0, hfz91_1⟩ := blk_fs2 BK402.out; obtain ⟨hcz92_0, hcz92_1⟩ := blk_cs2 BK401.out; obtain ⟨hfz92_0, hfz92_1⟩ := blk_fs2 BK401.out) | (go_at_call 13; (with_reducible refine (measure_ComparePairings.calls kj3 a1_0 _ _ l1_1 a0_0 _ _ l0_1 t412 _ ?side1 ?side2 ?side3 ?side4 A46.out).mono ?_); (case side1 => exact Kd.C_below HR1_1.out hbk); (case side2 => exact HC1_1.out); (case side3 => exact Kd.C_below HR0_1.out hbk); (case side4 => exact HC0_1.out); rintro e w93 ⟨rfl, hb⟩; replace BK401 := Aside0.mk (blk_belowB BK401.out hb); replace BK402 := Aside0.mk (blk_belowB BK402.out hb); replace BK403 := Aside0.mk (blk_belowB BK403.out hb); replace HB := Aside0.mk (below_step hbk hb); (try clear hb); (try clear hb2); (try clear hk); (try clear hi); obtain ⟨hcz94_0, hcz94_1⟩ := blk_cs2 BK401.out; obtain ⟨hfz94_0, hfz94_1⟩ := blk_fs2 BK401.out) | (go_at_call 13; (with_reducible refine (measure_ComparePairings.calls kj3 a0_0 _ _ l0_1 a0_0 _ _ l0_1 t413 _ ?side1 ?side2 ?side3 ?side4 A48.out).mono ?_); (case side1 => exact Kd.C_below HR0_1.out hbk); (case side2 => exact HC0_1.out); (case side3 => exact Kd.C_below HR0_1.out hbk); (case side4 => exact HC0_1.out); rintro e w95 ⟨rfl, hb⟩; replace BK401 := Aside0.mk (blk_belowB BK401.out hb); replace BK402 := Aside0.mk (blk_belowB BK402.out hb); replace BK403 := Aside0.mk (blk_belowB BK403.out hb); replace HB := Aside0.mk (below_step hbk hb); (try clear hb); (try clear hb2); (try clear hk); (try clear hi)))
        go_meet
        case rel => exact ⟨_, (true), (by first | rfl | (simp; done) | (simp [*]; done)), H', ⟨by have := HJ3.out; first | omega | exact Nat.le_refl _⟩, ⟨by (with_reducible repeat (first | refine blk_drewN ?_ _ | refine blk_drew ?_ | refine blk_alloc ?_ _)); exact BK401.out⟩, ⟨by (with_reducible repeat (first | refine blk_drewN ?_ _ | refine blk_drew ?_ | refine blk_alloc ?_ _)); exact BK402.out⟩, ⟨by (with_reducible repeat (first | refine blk_drewN ?_ _ | refine blk_drew ?_ | refine blk_alloc ?_ _)); exact BK403.out⟩, ⟨hbk⟩⟩
      ·rw [if_neg c47] at H
       have c47b0 : (t412 == (wrap64 (-t408))) = false := beq_eq_false_iff_ne.mpr c47
       have c47b1 : (t412 != (wrap64 (-t408))) = true := bne_iff_ne.mpr c47
       have H' := Aside0.mk H
       clear H
       have hnb96 := NB401_402.out
       have hnc96 := NB402_401.out
       have hnb97 := NB401_403.out
       have hnc97 := NB403_401.out
       obtain ⟨hcz98_0, hcz98_1⟩ := blk_cs2 BK401.out
       obtain ⟨hfz98_0, hfz98_1⟩ := blk_fs2 BK401.out
       have hnb99 := NB402_403.out
       have hnc99 := NB403_402.out
       obtain ⟨hcz100_0, hcz100_1⟩ := blk_cs2 BK402.out
       obtain ⟨hfz100_0, hfz100_1⟩ := blk_fs2 BK402.out
       go_wp2_with (first | ((with_reducible refine gate_callee (f := 14) rfl ?_); refine goesL_ (some 38) rfl rfl Tryz.func14 (by kernel_rfl) rfl #[.agg #[.string a0_0, .slice A0_1 l0_1.length c0_1], .agg #[.string a1_0, .slice A1_1 l1_1.length c1_1]] rfl hgl ?_; (with_reducible refine (pairingref14_ComparePairings.calls kj3 a0_0 _ _ l0_1 a1_0 _ _ l1_1 t411 _ ?side1 ?side2 ?side3 ?side4 A44.out).mono ?_); (case side1 => exact Kd.C_below HR0_1.out hbk); (case side2 => exact HC0_1.out); (case side3 => exact Kd.C_below HR1_1.out hbk); (case side4 => exact HC1_1.out); rintro e w101 ⟨rfl, hb⟩; refine ⟨_, rfl, ?_⟩; replace BK401 := Aside0.mk (blk_belowB BK401.out hb); replace BK402 := Aside0.mk (blk_belowB BK402.out hb); replace BK403 := Aside0.mk (blk_belowB BK403.out hb); replace HB := Aside0.mk (below_step hbk hb); (try clear hb); (try clear hb2); (try clear hk); (try clear hi); obtain ⟨hcz102_0, hcz102_1⟩ := blk_cs2 BK402.out; obtain ⟨hfz102_0, hfz102_1⟩ := blk_fs2 BK402.out; obtain ⟨hcz103_0, hcz103_1⟩ := blk_cs2 BK401.out; obtain ⟨hfz103_0, hfz103_1⟩ := blk_fs2 BK401.out) | (go_at_call 13; (with_reducible refine (measure_ComparePairings.calls kj3 a1_0 _ _ l1_1 a0_0 _ _ l0_1 t412 _ ?side1 ?side2 ?side3 ?side4 A46.out).mono ?_); (case side1 => exact Kd.C_below HR1_1.out hbk); (case side2 => exact HC1_1.out); (case side3 => exact Kd.C_below HR0_1.out hbk); (case side4 => exact HC0_1.out); rintro e w104 ⟨rfl, hb⟩; replace BK401 := Aside0.mk (blk_belowB BK401.out hb); replace BK402 := Aside0.mk (blk_belowB BK402.out hb); replace BK403 := Aside0.mk (blk_belowB BK403.out hb); replace HB := Aside0.mk (below_step hbk hb); (try clear hb); (try clear hb2); (try clear hk); (try clear hi)))
       go_meet
       case rel => exact ⟨_, (true), (by first | rfl | (simp; done) | (simp [*]; done)), H', ⟨by have := HJ3.out; first | omega | exact Nat.le_refl _⟩, ⟨by (with_reducible repeat (first | refine blk_drewN ?_ _ | refine blk_drew ?_ | refine blk_alloc ?_ _)); exact BK401.out⟩, ⟨by (with_reducible repeat (first | refine blk_drewN ?_ _ | refine blk_drew ?_ | refine blk_alloc ?_ _)); exact BK402.out⟩, ⟨by (with_reducible repeat (first | refine blk_drewN ?_ _ | refine blk_drew ?_ | refine blk_alloc ?_ _)); exact BK403.out⟩, ⟨hbk⟩⟩
     ·rw [if_neg c45] at H
      have c45b0 : (t408 == t411) = false := beq_eq_false_iff_ne.mpr c45
      have c45b1 : (t408 != t411) = true := bne_iff_ne.mpr c45
      (first | rw [c45b0] | (simp only [i64_w, i32_w]; rw [c45b0]) | skip)
      have H' := Aside0.mk H
      clear H
      have hnb105 := NB401_402.out
      have hnc105 := NB402_401.out
      have hnb106 := NB401_403.out
      have hnc106 := NB403_401.out
      obtain ⟨hcz107_0, hcz107_1⟩ := blk_cs2 BK401.out
      obtain ⟨hfz107_0, hfz107_1⟩ := blk_fs2 BK401.out
      have hnb108 := NB402_403.out
      have hnc108 := NB403_402.out
      obtain ⟨hcz109_0, hcz109_1⟩ := blk_cs2 BK402.out
      obtain ⟨hfz109_0, hfz109_1⟩ := blk_fs2 BK402.out
      go_wp2_with (first | ((with_reducible refine gate_callee (f := 14) rfl ?_); refine goesL_ (some 38) rfl rfl Tryz.func14 (by kernel_rfl) rfl #[.agg #[.string a0_0, .slice A0_1 l0_1.length c0_1], .agg #[.string a1_0, .slice A1_1 l1_1.length c1_1]] rfl hgl ?_; (with_reducible refine (pairingref14_ComparePairings.calls kj3 a0_0 _ _ l0_1 a1_0 _ _ l1_1 t411 _ ?side1 ?side2 ?side3 ?side4 A44.out).mono ?_); (case side1 => exact Kd.C_below HR0_1.out hbk); (case side2 => exact HC0_1.out); (case side3 => exact Kd.C_below HR1_1.out hbk); (case side4 => exact HC1_1.out); rintro e w110 ⟨rfl, hb⟩; refine ⟨_, rfl, ?_⟩; replace BK401 := Aside0.mk (blk_belowB BK401.out hb); replace BK402 := Aside0.mk (blk_belowB BK402.out hb); replace BK403 := Aside0.mk (blk_belowB BK403.out hb); replace HB := Aside0.mk (below_step hbk hb); (try clear hb); (try clear hb2); (try clear hk); (try clear hi)))
      go_meet
      case rel => exact ⟨_, (true), (by first | rfl | (simp; done) | (simp [*]; done)), H', ⟨by have := HJ3.out; first | omega | exact Nat.le_refl _⟩, ⟨by (with_reducible repeat (first | refine blk_drewN ?_ _ | refine blk_drew ?_ | refine blk_alloc ?_ _)); exact BK401.out⟩, ⟨by (with_reducible repeat (first | refine blk_drewN ?_ _ | refine blk_drew ?_ | refine blk_alloc ?_ _)); exact BK402.out⟩, ⟨by (with_reducible repeat (first | refine blk_drewN ?_ _ | refine blk_drew ?_ | refine blk_alloc ?_ _)); exact BK403.out⟩, ⟨hbk⟩⟩
    case rest =>
     clear HC39
     try clear c1
     try clear c2
     try clear p2
     try clear c3
     try clear c4
     try clear c5
     try clear c6
     try clear p6
     try clear c7
     try clear c8
     try clear c9
     try clear c10
     try clear c11
     try clear c13
     try clear c14
     try clear c17
     try clear c22
     try clear c23
     try clear c26
     try clear c29
     try clear c30
     try clear c33
     try clear c45
     try clear c45b0
     try clear c45b1
     try clear c47
     try clear c47b0
     try clear c47b1
     try clear c49
     try clear c49b0
     try clear c49b1
     try clear c50
     try clear c50b0
     try clear c51
     try clear c51b0
     try clear c52
     try clear c53
     try clear c55
     try clear c63
     try clear c64
     try clear p64
     try clear c66
     try clear c74
     try clear c75
     try clear c77
     try clear c85
     try clear c86
     try clear c88
     try clear c96
     try clear c97
     try clear c99
     try clear c105
     try clear c106
     try clear c108
     try clear hcz100_0
     try clear hcz100_1
     try clear hcz102_0
     try clear hcz102_1
     try clear hcz103_0
     try clear hcz103_1
     try clear hcz107_0
     try clear hcz107_1
     try clear hcz109_0
     try clear hcz109_1
     try clear hcz15_0
     try clear hcz15_1
     try clear hcz18_0
     try clear hcz18_1
     try clear hcz20_0
     try clear hcz20_1
     try clear hcz24_0
     try clear hcz24_1
     try clear hcz27_0
     try clear hcz27_1
     try clear hcz31_0
     try clear hcz31_1
     try clear hcz54_0
     try clear hcz54_1
     try clear hcz56_0
     try clear hcz56_1
     try clear hcz58_0
     try clear hcz58_1
     try clear hcz59_0
     try clear hcz59_1
     try clear hcz61_0
     try clear hcz61_1
     try clear hcz65_0
     try clear hcz65_1
     try clear hcz67_0
     try clear hcz67_1
     try clear hcz69_0
     try clear hcz69_1
     try clear hcz70_0
     try clear hcz70_1
     try clear hcz72_0
     try clear hcz72_1
     try clear hcz76_0
     try clear hcz76_1
     try clear hcz78_0
     try clear hcz78_1
     try clear hcz80_0
     try clear hcz80_1
     try clear hcz81_0
     try clear hcz81_1
     try clear hcz83_0
     try clear hcz83_1
     try clear hcz87_0
     try clear hcz87_1
     try clear hcz89_0
     try clear hcz89_1
     try clear hcz91_0
     try clear hcz91_1
     try clear hcz92_0
     try clear hcz92_1
     try clear hcz94_0
     try clear hcz94_1
     try clear hcz98_0
     try clear hcz98_1
     try clear hfz100_0
     try clear hfz100_1
     try clear hfz102_0
     try clear hfz102_1
     try clear hfz103_0
     try clear hfz103_1
     try clear hfz107_0
     try clear hfz107_1
     try clear hfz109_0
     try clear hfz109_1
     try clear hfz15_0
     try clear hfz15_1
     try clear hfz18_0
     try clear hfz18_1
     try clear hfz20_0
     try clear hfz20_1
     try clear hfz24_0
     try clear hfz24_1
     try clear hfz27_0
     try clear hfz27_1
     try clear hfz31_0
     try clear hfz31_1
     try clear hfz54_0
     try clear hfz54_1
     try clear hfz56_0
     try clear hfz56_1
     try clear hfz58_0
     try clear hfz58_1
     try clear hfz59_0
     try clear hfz59_1
     try clear hfz61_0
     try clear hfz61_1
     try clear hfz65_0
     try clear hfz65_1
     try clear hfz67_0
     try clear hfz67_1
     try clear hfz69_0
     try clear hfz69_1
     try clear hfz70_0
     try clear hfz70_1
     try clear hfz72_0
     try clear hfz72_1
     try clear hfz76_0
     try clear hfz76_1
     try clear hfz78_0
     try clear hfz78_1
     try clear hfz80_0
     try clear hfz80_1
     try clear hfz81_0
     try clear hfz81_1
     try clear hfz83_0
     try clear hfz83_1
     try clear hfz87_0
     try clear hfz87_1
     try clear hfz89_0
     try clear hfz89_1
     try clear hfz91_0
     try clear hfz91_1
     try clear hfz92_0
     try clear hfz92_1
     try clear hfz94_0
     try clear hfz94_1
     try clear hfz98_0
     try clear hfz98_1
     try clear p2
     obtain ⟨kq, x65_38, rfl, HA, HJ38, BK401, BK402, BK403, HB⟩ := hcut
     cases kq with
     | zero => exact absurd HA.out (by simp [pairinglaw15_MeasureOrders.j1])
     | succ kj38 =>
      have H := HA.out
      clear HA
      simp only [pairinglaw15_MeasureOrders.j1] at H
      by_cases c111 : x65_38 = true
      ·subst c111
       have H1 : (some false) = some r := by rw [if_pos rfl] at H; exact H
       clear H
       have H := H1
       clear H1
       obtain rfl := Option.some.inj H
       go_wp2
       go_ret
       exact ⟨hrf, hbk⟩
      ·replace c111 := Bool.eq_false_iff.mpr c111
       subst c111
       have H1 : (pairinglaw15_MeasureOrders.l0 kj38 0 a0_0 l0_1 a1_0 l1_1) = some r := by rw [if_neg (show ¬ (false = true) by decide)] at H; exact H
       clear H
       have H := H1
       clear H1
       have H' := Aside0.mk H
       clear H
       go_wp2
       go_loopg [10] kj38 (fun kq v10 w' => ∃ (x10_3 : Int), v10 = .int .i64 x10_3 ∧ Aside0 (pairinglaw15_MeasureOrders.l0 kq x10_3 a0_0 l0_1 a1_0 l1_1 = some r) ∧ Aside0 (kq ≤ kj38) ∧ Aside0 (w'.heap[gb401]? = some (.cells #[.string a0_0, (.slice A0_1 l0_1.length c0_1)] 43 (0, 0))) ∧ Aside0 (w'.heap[gb402]? = some (.cells #[.string a1_0, (.slice A1_1 l1_1.length c1_1)] 43 (0, 0))) ∧ Aside0 (w'.heap[gb403]? = some (.cells #[.string a2_0, (.slice A2_1 l2_1.length c2_1)] 43 (0, 0))) ∧ Aside0 (Below w.heap.size w w'))
       case atStart => exact ⟨(0), (by first | rfl | (simp; done) | (simp [*]; done)), H', ⟨Nat.le_refl _⟩, ⟨by (with_reducible repeat (first | refine blk_drewN ?_ _ | refine blk_drew ?_ | refine blk_alloc ?_ _)); exact BK401.out⟩, ⟨by (with_reducible repeat (first | refine blk_drewN ?_ _ | refine blk_drew ?_ | refine blk_alloc ?_ _)); exact BK402.out⟩, ⟨by (with_reducible repeat (first | refine blk_drewN ?_ _ | refine blk_drew ?_ | refine blk_alloc ?_ _)); exact BK403.out⟩, ⟨hbk⟩⟩
       case round =>
        clear H'
        try clear c1
        try clear c2
        try clear p2
        try clear c3
        try clear c4
        try clear c5
        try clear c6
        try clear p6
        try clear c7
        try clear c8
        try clear c9
        try clear c10
        try clear c11
        try clear c13
        try clear c14
        try clear c17
        try clear c22
        try clear c23
        try clear c26
        try clear c29
        try clear c30
        try clear c33
        try clear c45
        try clear c45b0
        try clear c45b1
        try clear c47
        try clear c47b0
        try clear c47b1
        try clear c49
        try clear c49b0
        try clear c49b1
        try clear c50
        try clear c50b0
        try clear c51
        try clear c51b0
        try clear c52
        try clear c53
        try clear c55
        try clear c63
        try clear c64
        try clear p64
        try clear c66
        try clear c74
        try clear c75
        try clear c77
        try clear c85
        try clear c86
        try clear c88
        try clear c96
        try clear c97
        try clear c99
        try clear c105
        try clear c106
        try clear c108
        try clear c111
        try clear hcz100_0
        try clear hcz100_1
        try clear hcz102_0
        try clear hcz102_1
        try clear hcz103_0
        try clear hcz103_1
        try clear hcz107_0
        try clear hcz107_1
        try clear hcz109_0
        try clear hcz109_1
        try clear hcz15_0
        try clear hcz15_1
        try clear hcz18_0
        try clear hcz18_1
        try clear hcz20_0
        try clear hcz20_1
        try clear hcz24_0
        try clear hcz24_1
        try clear hcz27_0
        try clear hcz27_1
        try clear hcz31_0
        try clear hcz31_1
        try clear hcz54_0
        try clear hcz54_1
        try clear hcz56_0
        try clear hcz56_1
        try clear hcz58_0
        try clear hcz58_1
        try clear hcz59_0
        try clear hcz59_1
        try clear hcz61_0
        try clear hcz61_1
        try clear hcz65_0
        try clear hcz65_1
        try clear hcz67_0
        try clear hcz67_1
        try clear hcz69_0
        try clear hcz69_1
        try clear hcz70_0
        try clear hcz70_1
        try clear hcz72_0
        try clear hcz72_1
        try clear hcz76_0
        try clear hcz76_1
        try clear hcz78_0
        try clear hcz78_1
        try clear hcz80_0
        try clear hcz80_1
        try clear hcz81_0
        try clear hcz81_1
        try clear hcz83_0
        try clear hcz83_1
        try clear hcz87_0
        try clear hcz87_1
        try clear hcz89_0
        try clear hcz89_1
        try clear hcz91_0
        try clear hcz91_1
        try clear hcz92_0
        try clear hcz92_1
        try clear hcz94_0
        try clear hcz94_1
        try clear hcz98_0
        try clear hcz98_1
        try clear hfz100_0
        try clear hfz100_1
        try clear hfz102_0
        try clear hfz102_1
        try clear hfz103_0
        try clear hfz103_1
        try clear hfz107_0
        try clear hfz107_1
        try clear hfz109_0
        try clear hfz109_1
        try clear hfz15_0
        try clear hfz15_1
        try clear hfz18_0
        try clear hfz18_1
        try clear hfz20_0
        try clear hfz20_1
        try clear hfz24_0
        try clear hfz24_1
        try clear hfz27_0
        try clear hfz27_1
        try clear hfz31_0
        try clear hfz31_1
        try clear hfz54_0
        try clear hfz54_1
        try clear hfz56_0
        try clear hfz56_1
        try clear hfz58_0
        try clear hfz58_1
        try clear hfz59_0
        try clear hfz59_1
        try clear hfz61_0
        try clear hfz61_1
        try clear hfz65_0
        try clear hfz65_1
        try clear hfz67_0
        try clear hfz67_1
        try clear hfz69_0
        try clear hfz69_1
        try clear hfz70_0
        try clear hfz70_1
        try clear hfz72_0
        try clear hfz72_1
        try clear hfz76_0
        try clear hfz76_1
        try clear hfz78_0
        try clear hfz78_1
        try clear hfz80_0
        try clear hfz80_1
        try clear hfz81_0
        try clear hfz81_1
        try clear hfz83_0
        try clear hfz83_1
        try clear hfz87_0
        try clear hfz87_1
        try clear hfz89_0
        try clear hfz89_1
        try clear hfz91_0
        try clear hfz91_1
        try clear hfz92_0
        try clear hfz92_1
        try clear hfz94_0
        try clear hfz94_1
        try clear hfz98_0
        try clear hfz98_1
        try clear p2
        try clear p6
        try clear p64
        obtain ⟨x10_3, rfl, HA, HK3, BK401, BK402, BK403, HB⟩ := hrel
        cases gk with
        | zero => exact absurd HA.out (by simp [pairinglaw15_MeasureOrders.l0])
        | succ k3 =>
         have H := HA.out
         clear HA
         simp only [pairinglaw15_MeasureOrders.l0] at H
         by_cases c112 : x10_3 < (l0_1.length : Int)
         ·rw [if_pos c112] at H
          have c112b0 : decide (x10_3 < (l0_1.length : Int)) = true := decide_eq_true c112
          clear c112
          have H' := Aside0.mk H
          clear H
          have hnb113 := NB401_402.out
          have hnc113 := NB402_401.out
          have hnb114 := NB401_403.out
          have hnc114 := NB403_401.out
          obtain ⟨hcz115_0, hcz115_1⟩ := blk_cs2 BK401.out
          obtain ⟨hfz115_0, hfz115_1⟩ := blk_fs2 BK401.out
          go_wp2
          go_loopg [11] k3 (fun kq v11 w' => ∃ (x11_4 : Int), v11 = .int .i64 x11_4 ∧ Aside0 (pairinglaw15_MeasureOrders.l1 kq x10_3 x11_4 a0_0 l0_1 a1_0 l1_1 = some r) ∧ Aside0 (kq ≤ k3) ∧ Aside0 (w'.heap[gb401]? = some (.cells #[.string a0_0, (.slice A0_1 l0_1.length c0_1)] 43 (0, 0))) ∧ Aside0 (w'.heap[gb402]? = some (.cells #[.string a1_0, (.slice A1_1 l1_1.length c1_1)] 43 (0, 0))) ∧ Aside0 (w'.heap[gb403]? = some (.cells #[.string a2_0, (.slice A2_1 l2_1.length c2_1)] 43 (0, 0))) ∧ Aside0 (Below w.heap.size w w'))
          case atStart => exact ⟨(0), (by first | rfl | (simp; done) | (simp [*]; done)), H', ⟨Nat.le_refl _⟩, ⟨by (with_reducible repeat (first | refine blk_drewN ?_ _ | refine blk_drew ?_ | refine blk_alloc ?_ _)); exact BK401.out⟩, ⟨by (with_reducible repeat (first | refine blk_drewN ?_ _ | refine blk_drew ?_ | refine blk_alloc ?_ _)); exact BK402.out⟩, ⟨by (with_reducible repeat (first | refine blk_drewN ?_ _ | refine blk_drew ?_ | refine blk_alloc ?_ _)); exact BK403.out⟩, ⟨hbk⟩⟩
          case round =>
           clear H'
           try clear c1
           try clear c2
           try clear p2
           try clear c3
           try clear c4
           try clear c5
           try clear c6
           try clear p6
           try clear c7
           try clear c8
           try clear c9
           try clear c10
           try clear c11
           try clear c13
           try clear c14
           try clear c17
           try clear c22
           try clear c23
           try clear c26
           try clear c29
           try clear c30
           try clear c33
           try clear c45
           try clear c45b0
           try clear c45b1
           try clear c47
           try clear c47b0
           try clear c47b1
           try clear c49
           try clear c49b0
           try clear c49b1
           try clear c50
           try clear c50b0
           try clear c51
           try clear c51b0
           try clear c52
           try clear c53
           try clear c55
           try clear c63
           try clear c64
           try clear p64
           try clear c66
           try clear c74
           try clear c75
           try clear c77
           try clear c85
           try clear c86
           try clear c88
           try clear c96
           try clear c97
           try clear c99
           try clear c105
           try clear c106
           try clear c108
           try clear c111
           try clear c112
           try clear c112b0
           try clear c113
           try clear c114
           try clear hcz100_0
           try clear hcz100_1
           try clear hcz102_0
           try clear hcz102_1
           try clear hcz103_0
           try clear hcz103_1
           try clear hcz107_0
           try clear hcz107_1
           try clear hcz109_0
           try clear hcz109_1
           try clear hcz115_0
           try clear hcz115_1
           try clear hcz15_0
           try clear hcz15_1
           try clear hcz18_0
           try clear hcz18_1
           try clear hcz20_0
           try clear hcz20_1
           try clear hcz24_0
           try clear hcz24_1
           try clear hcz27_0
           try clear hcz27_1
           try clear hcz31_0
           try clear hcz31_1
           try clear hcz54_0
           try clear hcz54_1
           try clear hcz56_0
           try clear hcz56_1
           try clear hcz58_0
           try clear hcz58_1
           try clear hcz59_0
           try clear hcz59_1
           try clear hcz61_0
           try clear hcz61_1
           try clear hcz65_0
           try clear hcz65_1
           try clear hcz67_0
           try clear hcz67_1
           try clear hcz69_0
           try clear hcz69_1
           try clear hcz70_0
           try clear hcz70_1
           try clear hcz72_0
           try clear hcz72_1
           try clear hcz76_0
           try clear hcz76_1
           try clear hcz78_0
           try clear hcz78_1
           try clear hcz80_0
           try clear hcz80_1
           try clear hcz81_0
           try clear hcz81_1
           try clear hcz83_0
           try clear hcz83_1
           try clear hcz87_0
           try clear hcz87_1
           try clear hcz89_0
           try clear hcz89_1
           try clear hcz91_0
           try clear hcz91_1
           try clear hcz92_0
           try clear hcz92_1
           try clear hcz94_0
           try clear hcz94_1
           try clear hcz98_0
           try clear hcz98_1
           try clear hfz100_0
           try clear hfz100_1
           try clear hfz102_0
           try clear hfz102_1
           try clear hfz103_0
           try clear hfz103_1
           try clear hfz107_0
           try clear hfz107_1
           try clear hfz109_0
           try clear hfz109_1
           try clear hfz115_0
           try clear hfz115_1
           try clear hfz15_0
           try clear hfz15_1
           try clear hfz18_0
           try clear hfz18_1
           try clear hfz20_0
           try clear hfz20_1
           try clear hfz24_0
           try clear hfz24_1
           try clear hfz27_0
           try clear hfz27_1
           try clear hfz31_0
           try clear hfz31_1
           try clear hfz54_0
           try clear hfz54_1
           try clear hfz56_0
           try clear hfz56_1
           try clear hfz58_0
           try clear hfz58_1
           try clear hfz59_0
           try clear hfz59_1
           try clear hfz61_0
           try clear hfz61_1
           try clear hfz65_0
           try clear hfz65_1
           try clear hfz67_0
           try clear hfz67_1
           try clear hfz69_0
           try clear hfz69_1
           try clear hfz70_0
           try clear hfz70_1
           try clear hfz72_0
           try clear hfz72_1
           try clear hfz76_0
           try clear hfz76_1
           try clear hfz78_0
           try clear hfz78_1
           try clear hfz80_0
           try clear hfz80_1
           try clear hfz81_0
           try clear hfz81_1
           try clear hfz83_0
           try clear hfz83_1
           try clear hfz87_0
           try clear hfz87_1
           try clear hfz89_0
           try clear hfz89_1
           try clear hfz91_0
           try clear hfz91_1
           try clear hfz92_0
           try clear hfz92_1
           try clear hfz94_0
           try clear hfz94_1
           try clear hfz98_0
           try clear hfz98_1
           try clear p2
           try clear p6
           try clear p64
           obtain ⟨x11_4, rfl, HA, HK4, BK401, BK402, BK403, HB⟩ := hrel
           cases gk with
           | zero => exact absurd HA.out (by simp [pairinglaw15_MeasureOrders.l1])
           | succ k4 =>
            have H := HA.out
            clear HA
            simp only [pairinglaw15_MeasureOrders.l1] at H
            by_cases c116 : x11_4 < (l1_1.length : Int)
            ·rw [if_pos c116] at H
             have c116b0 : decide (x11_4 < (l1_1.length : Int)) = true := decide_eq_true c116
             clear c116
             by_cases c117 : 0 ≤ x10_3
             ·rw [if_pos c117] at H
              have c117b0 : decide (0 ≤ x10_3) = true := decide_eq_true c117
              clear c117
              by_cases c118 : x10_3 < (l0_1.length : Int)
              ·rw [if_pos c118] at H
               have c118b0 : decide (x10_3 < (l0_1.length : Int)) = true := decide_eq_true c118
               clear c118
               by_cases c119 : 0 ≤ x11_4
               ·rw [if_pos c119] at H
                have c119b0 : decide (0 ≤ x11_4) = true := decide_eq_true c119
                clear c119
                replace H := Option.bind_eq_some_iff.mp H
                obtain ⟨t417, A1200, H⟩ := H
                replace H : ((pairingref14_CompareDuties.f k4 (rd_L31 l0_1 x10_3) (rd_L31 l1_1 x11_4)).bind fun t420 => (if t417 = t420 then (pairinglaw15_MeasureOrders.l1 k4 x10_3 (wrap64 (x11_4 + 1)) a0_0 l0_1 a1_0 l1_1) else (some false))) = some r := H
                have A120 := Aside0.mk A1200
                clear A1200
                replace H := Option.bind_eq_some_iff.mp H
                obtain ⟨t420, A1210, H⟩ := H
                replace H : (if t417 = t420 then (pairinglaw15_MeasureOrders.l1 k4 x10_3 (wrap64 (x11_4 + 1)) a0_0 l0_1 a1_0 l1_1) else (some false)) = some r := H
                have A121 := Aside0.mk A1210
                clear A1210
                by_cases c122 : t417 = t420
                ·rw [if_pos c122] at H
                 have c122b0 : (t417 == t420) = true := beq_iff_eq.mpr c122
                 have c122b1 : (t417 != t420) = false := bne_eq_false_iff_eq.mpr c122
                 clear c122
                 have H' := Aside0.mk H
                 clear H
                 have hnb123 := NB402_401.out
                 have hnc123 := NB401_402.out
                 have hnb124 := NB402_403.out
                 have hnc124 := NB403_402.out
                 obtain ⟨hcz125_0, hcz125_1⟩ := blk_cs2 BK402.out
                 obtain ⟨hfz125_0, hfz125_1⟩ := blk_fs2 BK402.out
                 try go_wp2
                 replace BK401 := Aside0.mk (blk_drew BK401.out)
                 replace BK402 := Aside0.mk (blk_drew BK402.out)
                 replace BK403 := Aside0.mk (blk_drew BK403.out)
                 replace HB := Aside0.mk (below_drew1 HB.out)
                 have p415 : 0 ≤ (x10_3 : Int) := of_decide_eq_true (by first | (with_reducible assumption) | assumption)
                 have q415 : x10_3 < (l0_1.length : Int) := of_decide_eq_true (by first | (with_reducible assumption) | assumption)
                 obtain ⟨ad415, A415_0, c415_0, e415, hx415_0, hl415_0, hi415_0⟩ := at_L31 HR0_1.out x10_3 p415 q415
                 have hw415_0 := hx415_0
                 cases e415
                 replace hx415_0 := (HB.out.cell (World.block_lt_of_cell? w _ hx415_0)).trans hx415_0
                 have HR415_0 := Aside0.mk hi415_0
                 have HC415_0 := Aside0.mk hl415_0
                 clear hi415_0 hl415_0
                 replace p415 := eq_true p415
                 replace q415 := eq_true q415
                 have p416 : 0 ≤ (x11_4 : Int) := of_decide_eq_true (by first | (with_reducible assumption) | assumption)
                 have q416 : x11_4 < (l1_1.length : Int) := of_decide_eq_true (by first | (with_reducible assumption) | assumption)
                 obtain ⟨ad416, A416_0, c416_0, e416, hx416_0, hl416_0, hi416_0⟩ := at_L31 HR1_1.out x11_4 p416 q416
                 have hw416_0 := hx416_0
                 cases e416
                 replace hx416_0 := (HB.out.cell (World.block_lt_of_cell? w _ hx416_0)).trans hx416_0
                 have HR416_0 := Aside0.mk hi416_0
                 have HC416_0 := Aside0.mk hl416_0
                 clear hi416_0 hl416_0
                 replace p416 := eq_true p416
                 replace q416 := eq_true q416
                 have p418 : 0 ≤ (x10_3 : Int) := of_decide_eq_true (by first | (with_reducible assumption) | assumption)
                 have q418 : x10_3 < (l0_1.length : Int) := of_decide_eq_true (by first | (with_reducible assumption) | assumption)
                 obtain ⟨ad418, A418_0, c418_0, e418, hx418_0, hl418_0, hi418_0⟩ := at_L31 HR0_1.out x10_3 p418 q418
                 have hw418_0 := hx418_0
                 obtain rfl : ad415 = ad418 := (by injection e418)
                 replace hx418_0 := (HB.out.cell (World.block_lt_of_cell? w _ hx418_0)).trans hx418_0
                 have HR418_0 := Aside0.mk hi418_0
                 have HC418_0 := Aside0.mk hl418_0
                 clear hi418_0 hl418_0
                 replace p418 := eq_true p418
                 replace q418 := eq_true q418
                 have ea_ := Option.some.inj (hx415_0.symm.trans hx418_0)
                 injection ea_ with ea_ en_ ec_
                 subst ea_
                 subst ec_
                 clear en_
                 have p419 : 0 ≤ (x11_4 : Int) := of_decide_eq_true (by first | (with_reducible assumption) | assumption)
                 have q419 : x11_4 < (l1_1.length : Int) := of_decide_eq_true (by first | (with_reducible assumption) | assumption)
                 obtain ⟨ad419, A419_0, c419_0, e419, hx419_0, hl419_0, hi419_0⟩ := at_L31 HR1_1.out x11_4 p419 q419
                 have hw419_0 := hx419_0
                 obtain rfl : ad416 = ad419 := (by injection e419)
                 replace hx419_0 := (HB.out.cell (World.block_lt_of_cell? w _ hx419_0)).trans hx419_0
                 have HR419_0 := Aside0.mk hi419_0
                 have HC419_0 := Aside0.mk hl419_0
                 clear hi419_0 hl419_0
                 replace p419 := eq_true p419
                 replace q419 := eq_true q419
                 have ea_ := Option.some.inj (hx416_0.symm.trans hx419_0)
                 injection ea_ with ea_ en_ ec_
                 subst ea_
                 subst ec_
                 clear en_
                 refine start_ (n := 23) (S := fun w' => w'.cell? ⟨gb401, 0, none⟩ = some (.string a0_0) ∧ w'.cell? ⟨gb401, 1, none⟩ = some (.slice (some ad415) l0_1.length c0_1) ∧ w'.cell? ⟨gb402, 0, none⟩ = some (.string a1_0) ∧ w'.cell? ⟨gb402, 1, none⟩ = some (.slice (some ad416) l1_1.length c1_1) ∧ w'.cell? (ad415.add (x10_3).toNat) = some (.slice A415_0 (rd_L31 l0_1 x10_3).length c415_0) ∧ w'.cell? (ad416.add (x11_4).toNat) = some (.slice A416_0 (rd_L31 l1_1 x11_4).length c416_0) ∧ w'.cell? (ad415.add (x10_3).toNat) = some (.slice A415_0 (rd_L31 l0_1 x10_3).length c415_0) ∧ w'.cell? (ad416.add (x11_4).toNat) = some (.slice A416_0 (rd_L31 l1_1 x11_4).length c416_0)) (ds := []) #[false, false, false, false, false, false, false, false, false, false, false, false, false, false, false, false, false, false, false, false, false, false, false] (by kernel_rfl) rfl rfl ⟨(blk_cell BK401.out 0).trans rfl, (blk_cell BK401.out 1).trans rfl, (blk_cell BK402.out 0).trans rfl, (blk_cell BK402.out 1).trans rfl, ((HB.out.cell (World.block_lt_of_cell? w _ hw415_0)).trans hw415_0), ((HB.out.cell (World.block_lt_of_cell? w _ hw416_0)).trans hw416_0), ((HB.out.cell (World.block_lt_of_cell? w _ hw418_0)).trans hw418_0), ((HB.out.cell (World.block_lt_of_cell? w _ hw419_0)).trans hw419_0)⟩ (fun hHeld => ?_); refine with_tabW pairinglaw15_MeasureOrders.tab12 pairinglaw15_MeasureOrders.bits12 (fun HT_ HW_ => ?_)
                 generalize wr.drew = w126 at BK401 BK402 BK403 HB HR415_0 HR416_0 HR418_0 HR419_0 hx415_0 hx416_0 hx418_0 hx419_0 hHeld ⊢
                 refine pure_ (i := 0) (N := some 80) (v := ?_) (a' := ?_) #[true, false, false, false, false, false, false, false, false, false, false, false, false, false, false, false, false, false, false, false, false, false, false] rfl rfl (any_of HT_.out (by kernel_rfl)) (fun _ _ _ h => h) (Or.inl ⟨by rfl, ?_⟩) ?_ ?_
                 rotate_left
                 ·intro w'
                  go_simp
                  with_reducible rfl
                 rotate_left
                 ·simp only [Act.put, List.setIfInBounds_toArray, List.set_cons_zero, List.set_cons_succ, i64_w, i32_w]
                  rfl
                 refine pure_ (i := 2) (N := some 82) (v := ?_) (a' := ?_) #[true, false, true, false, false, false, false, false, false, false, false, false, false, false, false, false, false, false, false, false, false, false, false] rfl rfl (any_of HT_.out (by kernel_rfl)) (fun _ _ _ h => h) (Or.inl ⟨by rfl, ?_⟩) ?_ ?_
                 rotate_left
                 ·intro w'
                  go_simp
                  with_reducible rfl
                 rotate_left
                 ·simp only [Act.put, List.setIfInBounds_toArray, List.set_cons_zero, List.set_cons_succ, i64_w, i32_w]
                  rfl
                 refine pure_ (i := 5) (N := some 85) (v := ?_) (a' := ?_) #[true, false, true, false, false, true, false, false, false, false, false, false, false, false, false, false, false, false, false, false, false, false, false] rfl rfl (any_of HT_.out (by kernel_rfl)) (fun _ _ _ h => h) (Or.inl ⟨by rfl, ?_⟩) ?_ ?_
                 rotate_left
                 ·intro w'
                  go_simp
                  with_reducible rfl
                 rotate_left
                 ·simp only [Act.put, List.setIfInBounds_toArray, List.set_cons_zero, List.set_cons_succ, i64_w, i32_w]
                  rfl
                 refine pure_ (i := 7) (N := some 87) (v := ?_) (a' := ?_) #[true, false, true, false, false, true, false, true, false, false, false, false, false, false, false, false, false, false, false, false, false, false, false] rfl rfl (any_of HT_.out (by kernel_rfl)) (fun _ _ _ h => h) (Or.inl ⟨by rfl, ?_⟩) ?_ ?_
                 rotate_left
                 ·intro w'
                  go_simp
                  with_reducible rfl
                 rotate_left
                 ·simp only [Act.put, List.setIfInBounds_toArray, List.set_cons_zero, List.set_cons_succ, i64_w, i32_w]
                  rfl
                 refine pure_ (i := 11) (N := some 91) (v := ?_) (a' := ?_) #[true, false, true, false, false, true, false, true, false, false, false, true, false, false, false, false, false, false, false, false, false, false, false] rfl rfl (any_of HT_.out (by kernel_rfl)) (fun _ _ _ h => h) (Or.inl ⟨by rfl, ?_⟩) ?_ ?_
                 rotate_left
                 ·intro w'
                  go_simp
                  with_reducible rfl
                 rotate_left
                 ·simp only [Act.put, List.setIfInBounds_toArray, List.set_cons_zero, List.set_cons_succ, i64_w, i32_w]
                  rfl
                 refine pure_ (i := 13) (N := some 93) (v := ?_) (a' := ?_) #[true, false, true, false, false, true, false, true, false, false, false, true, false, true, false, false, false, false, false, false, false, false, false] rfl rfl (any_of HT_.out (by kernel_rfl)) (fun _ _ _ h => h) (Or.inl ⟨by rfl, ?_⟩) ?_ ?_
                 rotate_left
                 ·intro w'
                  go_simp
                  with_reducible rfl
                 rotate_left
                 ·simp only [Act.put, List.setIfInBounds_toArray, List.set_cons_zero, List.set_cons_succ, i64_w, i32_w]
                  rfl
                 refine pure_ (i := 16) (N := some 96) (v := ?_) (a' := ?_) #[true, false, true, false, false, true, false, true, false, false, false, true, false, true, false, false, true, false, false, false, false, false, false] rfl rfl (any_of HT_.out (by kernel_rfl)) (fun _ _ _ h => h) (Or.inl ⟨by rfl, ?_⟩) ?_ ?_
                 rotate_left
                 ·intro w'
                  go_simp
                  with_reducible rfl
                 rotate_left
                 ·simp only [Act.put, List.setIfInBounds_toArray, List.set_cons_zero, List.set_cons_succ, i64_w, i32_w]
                  rfl
                 refine pure_ (i := 18) (N := some 98) (v := ?_) (a' := ?_) #[true, false, true, false, false, true, false, true, false, false, false, true, false, true, false, false, true, false, true, false, false, false, false] rfl rfl (any_of HT_.out (by kernel_rfl)) (fun _ _ _ h => h) (Or.inl ⟨by rfl, ?_⟩) ?_ ?_
                 rotate_left
                 ·intro w'
                  go_simp
                  with_reducible rfl
                 rotate_left
                 ·simp only [Act.put, List.setIfInBounds_toArray, List.set_cons_zero, List.set_cons_succ, i64_w, i32_w]
                  rfl
                 refine take_ (i := 1) (N := some 81) (v := ?_) (a' := ?_) #[true, true, true, false, false, true, false, true, false, false, false, true, false, true, false, false, true, false, true, false, false, false, false] rfl rfl (take_ofW HT_.out HW_.out (by kernel_rfl)) (fun _ _ _ h => h) (Or.inl ⟨by rfl, ?_⟩) hHeld ?_ ?_
                 rotate_left
                 ·rintro w' ⟨s0, s1, s2, s3, s4, s5, s6, s7⟩
                  go_simp
                  with_reducible rfl
                 rotate_left
                 ·simp only [Act.put, List.setIfInBounds_toArray, List.set_cons_zero, List.set_cons_succ, i64_w, i32_w]
                  rfl
                 refine pure_ (i := 3) (N := some 83) (v := ?_) (a' := ?_) #[true, true, true, true, false, true, false, true, false, false, false, true, false, true, false, false, true, false, true, false, false, false, false] rfl rfl (any_of HT_.out (by kernel_rfl)) (fun _ _ _ h => h) (Or.inl ⟨by rfl, ?_⟩) ?_ ?_
                 rotate_left
                 ·intro w'
                  go_simp
                  with_reducible rfl
                 rotate_left
                 ·simp only [Act.put, List.setIfInBounds_toArray, List.set_cons_zero, List.set_cons_succ, i64_w, i32_w]
                  rfl
                 refine take_ (i := 4) (N := some 84) (v := ?_) (a' := ?_) #[true, true, true, true, true, true, false, true, false, false, false, true, false, true, false, false, true, false, true, false, false, false, false] rfl rfl (take_ofW HT_.out HW_.out (by kernel_rfl)) (fun _ _ _ h => h) (Or.inl ⟨by rfl, ?_⟩) hHeld ?_ ?_
                 rotate_left
                 ·rintro w' ⟨s0, s1, s2, s3, s4, s5, s6, s7⟩
                  go_simp
                  with_reducible rfl
                 rotate_left
                 ·simp only [Act.put, List.setIfInBounds_toArray, List.set_cons_zero, List.set_cons_succ, i64_w, i32_w]
                  rfl
                 refine take_ (i := 6) (N := some 86) (v := ?_) (a' := ?_) #[true, true, true, true, true, true, true, true, false, false, false, true, false, true, false, false, true, false, true, false, false, false, false] rfl rfl (take_ofW HT_.out HW_.out (by kernel_rfl)) (fun _ _ _ h => h) (Or.inl ⟨by rfl, ?_⟩) hHeld ?_ ?_
                 rotate_left
                 ·rintro w' ⟨s0, s1, s2, s3, s4, s5, s6, s7⟩
                  go_simp
                  with_reducible rfl
                 rotate_left
                 ·simp only [Act.put, List.setIfInBounds_toArray, List.set_cons_zero, List.set_cons_succ, i64_w, i32_w]
                  rfl
                 refine pure_ (i := 8) (N := some 88) (v := ?_) (a' := ?_) #[true, true, true, true, true, true, true, true, true, false, false, true, false, true, false, false, true, false, true, false, false, false, false] rfl rfl (any_of HT_.out (by kernel_rfl)) (fun _ _ _ h => h) (Or.inl ⟨by rfl, ?_⟩) ?_ ?_
                 rotate_left
                 ·intro w'
                  go_simp
                  with_reducible rfl
                 rotate_left
                 ·simp only [Act.put, List.setIfInBounds_toArray, List.set_cons_zero, List.set_cons_succ, i64_w, i32_w]
                  rfl
                 refine take_ (i := 9) (N := some 89) (v := ?_) (a' := ?_) #[true, true, true, true, true, true, true, true, true, true, false, true, false, true, false, false, true, false, true, false, false, false, false] rfl rfl (take_ofW HT_.out HW_.out (by kernel_rfl)) (fun _ _ _ h => h) (Or.inl ⟨by rfl, ?_⟩) hHeld ?_ ?_
                 rotate_left
                 ·rintro w' ⟨s0, s1, s2, s3, s4, s5, s6, s7⟩
                  go_simp
                  with_reducible rfl
                 rotate_left
                 ·simp only [Act.put, List.setIfInBounds_toArray, List.set_cons_zero, List.set_cons_succ, i64_w, i32_w]
                  rfl
                 refine take_ (i := 12) (N := some 92) (v := ?_) (a' := ?_) #[true, true, true, true, true, true, true, true, true, true, false, true, true, true, false, false, true, false, true, false, false, false, false] rfl rfl (take_ofW HT_.out HW_.out (by kernel_rfl)) (fun _ _ _ h => h) (Or.inl ⟨by rfl, ?_⟩) hHeld ?_ ?_
                 rotate_left
                 ·rintro w' ⟨s0, s1, s2, s3, s4, s5, s6, s7⟩
                  go_simp
                  with_reducible rfl
                 rotate_left
                 ·simp only [Act.put, List.setIfInBounds_toArray, List.set_cons_zero, List.set_cons_succ, i64_w, i32_w]
                  rfl
                 refine pure_ (i := 14) (N := some 94) (v := ?_) (a' := ?_) #[true, true, true, true, true, true, true, true, true, true, false, true, true, true, true, false, true, false, true, false, false, false, false] rfl rfl (any_of HT_.out (by kernel_rfl)) (fun _ _ _ h => h) (Or.inl ⟨by rfl, ?_⟩) ?_ ?_
                 rotate_left
                 ·intro w'
                  go_simp
                  with_reducible rfl
                 rotate_left
                 ·simp only [Act.put, List.setIfInBounds_toArray, List.set_cons_zero, List.set_cons_succ, i64_w, i32_w]
                  rfl
                 refine take_ (i := 15) (N := some 95) (v := ?_) (a' := ?_) #[true, true, true, true, true, true, true, true, true, true, false, true, true, true, true, true, true, false, true, false, false, false, false] rfl rfl (take_ofW HT_.out HW_.out (by kernel_rfl)) (fun _ _ _ h => h) (Or.inl ⟨by rfl, ?_⟩) hHeld ?_ ?_
                 rotate_left
                 ·rintro w' ⟨s0, s1, s2, s3, s4, s5, s6, s7⟩
                  go_simp
                  with_reducible rfl
                 rotate_left
                 ·simp only [Act.put, List.setIfInBounds_toArray, List.set_cons_zero, List.set_cons_succ, i64_w, i32_w]
                  rfl
                 refine take_ (i := 17) (N := some 97) (v := ?_) (a' := ?_) #[true, true, true, true, true, true, true, true, true, true, false, true, true, true, true, true, true, true, true, false, false, false, false] rfl rfl (take_ofW HT_.out HW_.out (by kernel_rfl)) (fun _ _ _ h => h) (Or.inl ⟨by rfl, ?_⟩) hHeld ?_ ?_
                 rotate_left
                 ·rintro w' ⟨s0, s1, s2, s3, s4, s5, s6, s7⟩
                  go_simp
                  with_reducible rfl
                 rotate_left
                 ·simp only [Act.put, List.setIfInBounds_toArray, List.set_cons_zero, List.set_cons_succ, i64_w, i32_w]
                  rfl
                 refine pure_ (i := 19) (N := some 99) (v := ?_) (a' := ?_) #[true, true, true, true, true, true, true, true, true, true, false, true, true, true, true, true, true, true, true, true, false, false, false] rfl rfl (any_of HT_.out (by kernel_rfl)) (fun _ _ _ h => h) (Or.inl ⟨by rfl, ?_⟩) ?_ ?_
                 rotate_left
                 ·intro w'
                  go_simp
                  with_reducible rfl
                 rotate_left
                 ·simp only [Act.put, List.setIfInBounds_toArray, List.set_cons_zero, List.set_cons_succ, i64_w, i32_w]
                  rfl
                 refine take_ (i := 20) (N := some 100) (v := ?_) (a' := ?_) #[true, true, true, true, true, true, true, true, true, true, false, true, true, true, true, true, true, true, true, true, true, false, false] rfl rfl (take_ofW HT_.out HW_.out (by kernel_rfl)) (fun _ _ _ h => h) (Or.inl ⟨by rfl, ?_⟩) hHeld ?_ ?_
                 rotate_left
                 ·rintro w' ⟨s0, s1, s2, s3, s4, s5, s6, s7⟩
                  go_simp
                  with_reducible rfl
                 rotate_left
                 ·simp only [Act.put, List.setIfInBounds_toArray, List.set_cons_zero, List.set_cons_succ, i64_w, i32_w]
                  rfl
                 refine one_ (i := 10) (N := some 90) #[true, true, true, true, true, true, true, true, true, true, true, true, true, true, true, true, true, true, true, true, true, false, false] rfl rfl (one_of HT_.out (by kernel_rfl)) (by decide) (fun K hK => ?_)
                 refine goes_ Tryz.func15 (by kernel_rfl) rfl #[.slice A415_0 (rd_L31 l0_1 x10_3).length c415_0, .slice A416_0 (rd_L31 l1_1 x11_4).length c416_0] (by rfl) rfl rfl hgl ?_
                 with_reducible refine (measure_CompareDuties.calls _ _ (rd_L31 l0_1 x10_3) _ _ (rd_L31 l1_1 x11_4) t417 _ ?side1 ?side2 ?side3 ?side4 A120.out).mono ?_
                 (case side1 => exact Kd.C_below HR415_0.out hbk)
                 (case side2 => exact HC415_0.out)
                 (case side3 => exact Kd.C_below HR416_0.out hbk)
                 (case side4 => exact HC416_0.out)
                 rintro e w127 ⟨rfl, hb⟩
                 refine ⟨_, rfl, ?_⟩
                 replace BK401 := Aside0.mk (blk_belowB BK401.out hb)
                 replace BK402 := Aside0.mk (blk_belowB BK402.out hb)
                 replace BK403 := Aside0.mk (blk_belowB BK403.out hb)
                 replace HB := Aside0.mk (below_step hbk hb)
                 (try clear hb)
                 (try clear hb2)
                 (try clear hk)
                 (try clear hi)
                 refine hK.out _ _ ⟨(blk_cell BK401.out 0).trans rfl, (blk_cell BK401.out 1).trans rfl, (blk_cell BK402.out 0).trans rfl, (blk_cell BK402.out 1).trans rfl, ((HB.out.cell (World.block_lt_of_cell? w _ hw415_0)).trans hw415_0), ((HB.out.cell (World.block_lt_of_cell? w _ hw416_0)).trans hw416_0), ((HB.out.cell (World.block_lt_of_cell? w _ hw418_0)).trans hw418_0), ((HB.out.cell (World.block_lt_of_cell? w _ hw419_0)).trans hw419_0)⟩ (fun hHeld => ?_)
                 clear hK K
                 refine norm_ (a' := ?_) ?_ ?_
                 rotate_left
                 ·show Act.put _ (some 90) _ = _
                  simp only [Act.put, List.setIfInBounds_toArray, List.set_cons_zero, List.set_cons_succ, i64_w, i32_w]
                  rfl
                 refine one_ (i := 21) (N := some 101) #[true, true, true, true, true, true, true, true, true, true, true, true, true, true, true, true, true, true, true, true, true, true, false] rfl rfl (one_of HT_.out (by kernel_rfl)) (by decide) (fun K hK => ?_)
                 refine goes_ Tryz.func16 (by kernel_rfl) rfl #[.slice A415_0 (rd_L31 l0_1 x10_3).length c415_0, .slice A416_0 (rd_L31 l1_1 x11_4).length c416_0] (by rfl) rfl rfl hgl ?_
                 with_reducible refine (pairingref14_CompareDuties.calls k4 _ _ (rd_L31 l0_1 x10_3) _ _ (rd_L31 l1_1 x11_4) t420 _ ?side1 ?side2 ?side3 ?side4 A121.out).mono ?_
                 (case side1 => exact Kd.C_below HR418_0.out hbk)
                 (case side2 => exact HC418_0.out)
                 (case side3 => exact Kd.C_below HR419_0.out hbk)
                 (case side4 => exact HC419_0.out)
                 rintro e w128 ⟨rfl, hb⟩
                 refine ⟨_, rfl, ?_⟩
                 replace BK401 := Aside0.mk (blk_belowB BK401.out hb)
                 replace BK402 := Aside0.mk (blk_belowB BK402.out hb)
                 replace BK403 := Aside0.mk (blk_belowB BK403.out hb)
                 replace HB := Aside0.mk (below_step hbk hb)
                 (try clear hb)
                 (try clear hb2)
                 (try clear hk)
                 (try clear hi)
                 refine hK.out _ _ ⟨(blk_cell BK401.out 0).trans rfl, (blk_cell BK401.out 1).trans rfl, (blk_cell BK402.out 0).trans rfl, (blk_cell BK402.out 1).trans rfl, ((HB.out.cell (World.block_lt_of_cell? w _ hw415_0)).trans hw415_0), ((HB.out.cell (World.block_lt_of_cell? w _ hw416_0)).trans hw416_0), ((HB.out.cell (World.block_lt_of_cell? w _ hw418_0)).trans hw418_0), ((HB.out.cell (World.block_lt_of_cell? w _ hw419_0)).trans hw419_0)⟩ (fun hHeld => ?_)
                 clear hK K
                 refine norm_ (a' := ?_) ?_ ?_
                 rotate_left
                 ·show Act.put _ (some 101) _ = _
                  simp only [Act.put, List.setIfInBounds_toArray, List.set_cons_zero, List.set_cons_succ, i64_w, i32_w]
                  rfl
                 refine pure_ (i := 22) (N := some 102) (v := ?_) (a' := ?_) #[true, true, true, true, true, true, true, true, true, true, true, true, true, true, true, true, true, true, true, true, true, true, true] rfl rfl (any_of HT_.out (by kernel_rfl)) (fun _ _ _ h => h) (Or.inl ⟨by rfl, ?_⟩) ?_ ?_
                 rotate_left
                 ·intro w'
                  go_simp
                  with_reducible rfl
                 rotate_left
                 ·simp only [Act.put, List.setIfInBounds_toArray, List.set_cons_zero, List.set_cons_succ, i64_w, i32_w]
                  rfl
                 refine done_ (done_of HT_.out (by kernel_rfl)) ?_
                 try go_wp2
                 go_roundg k4
                 case measure => have := HJ3.out; have := HJ38.out; have := HK3.out; have := HK4.out; omega
                 case rel => exact ⟨(wrap64 (x11_4 + 1)), (by first | rfl | (simp; done) | (simp [*]; done)), H', ⟨by have := HJ3.out; have := HJ38.out; have := HK3.out; have := HK4.out; omega⟩, ⟨by (with_reducible repeat (first | refine blk_drewN ?_ _ | refine blk_drew ?_ | refine blk_alloc ?_ _)); exact BK401.out⟩, ⟨by (with_reducible repeat (first | refine blk_drewN ?_ _ | refine blk_drew ?_ | refine blk_alloc ?_ _)); exact BK402.out⟩, ⟨by (with_reducible repeat (first | refine blk_drewN ?_ _ | refine blk_drew ?_ | refine blk_alloc ?_ _)); exact BK403.out⟩, ⟨hbk⟩⟩
                ·rw [if_neg c122] at H
                 have c122b0 : (t417 == t420) = false := beq_eq_false_iff_ne.mpr c122
                 have c122b1 : (t417 != t420) = true := bne_iff_ne.mpr c122
                 obtain rfl := Option.some.inj H
                 have hnb129 := NB402_401.out
                 have hnc129 := NB401_402.out
                 have hnb130 := NB402_403.out
                 have hnc130 := NB403_402.out
                 obtain ⟨hcz131_0, hcz131_1⟩ := blk_cs2 BK402.out
                 obtain ⟨hfz131_0, hfz131_1⟩ := blk_fs2 BK402.out
                 try go_wp2
                 replace BK401 := Aside0.mk (blk_drew BK401.out)
                 replace BK402 := Aside0.mk (blk_drew BK402.out)
                 replace BK403 := Aside0.mk (blk_drew BK403.out)
                 replace HB := Aside0.mk (below_drew1 HB.out)
                 have p415 : 0 ≤ (x10_3 : Int) := of_decide_eq_true (by first | (with_reducible assumption) | assumption)
                 have q415 : x10_3 < (l0_1.length : Int) := of_decide_eq_true (by first | (with_reducible assumption) | assumption)
                 obtain ⟨ad415, A415_0, c415_0, e415, hx415_0, hl415_0, hi415_0⟩ := at_L31 HR0_1.out x10_3 p415 q415
                 have hw415_0 := hx415_0
                 cases e415
                 replace hx415_0 := (HB.out.cell (World.block_lt_of_cell? w _ hx415_0)).trans hx415_0
                 have HR415_0 := Aside0.mk hi415_0
                 have HC415_0 := Aside0.mk hl415_0
                 clear hi415_0 hl415_0
                 replace p415 := eq_true p415
                 replace q415 := eq_true q415
                 have p416 : 0 ≤ (x11_4 : Int) := of_decide_eq_true (by first | (with_reducible assumption) | assumption)
                 have q416 : x11_4 < (l1_1.length : Int) := of_decide_eq_true (by first | (with_reducible assumption) | assumption)
                 obtain ⟨ad416, A416_0, c416_0, e416, hx416_0, hl416_0, hi416_0⟩ := at_L31 HR1_1.out x11_4 p416 q416
                 have hw416_0 := hx416_0
                 cases e416
                 replace hx416_0 := (HB.out.cell (World.block_lt_of_cell? w _ hx416_0)).trans hx416_0
                 have HR416_0 := Aside0.mk hi416_0
                 have HC416_0 := Aside0.mk hl416_0
                 clear hi416_0 hl416_0
                 replace p416 := eq_true p416
                 replace q416 := eq_true q416
                 have p418 : 0 ≤ (x10_3 : Int) := of_decide_eq_true (by first | (with_reducible assumption) | assumption)
                 have q418 : x10_3 < (l0_1.length : Int) := of_decide_eq_true (by first | (with_reducible assumption) | assumption)
                 obtain ⟨ad418, A418_0, c418_0, e418, hx418_0, hl418_0, hi418_0⟩ := at_L31 HR0_1.out x10_3 p418 q418
                 have hw418_0 := hx418_0
                 obtain rfl : ad415 = ad418 := (by injection e418)
                 replace hx418_0 := (HB.out.cell (World.block_lt_of_cell? w _ hx418_0)).trans hx418_0
                 have HR418_0 := Aside0.mk hi418_0
                 have HC418_0 := Aside0.mk hl418_0
                 clear hi418_0 hl418_0
                 replace p418 := eq_true p418
                 replace q418 := eq_true q418
                 have ea_ := Option.some.inj (hx415_0.symm.trans hx418_0)
                 injection ea_ with ea_ en_ ec_
                 subst ea_
                 subst ec_
                 clear en_
                 have p419 : 0 ≤ (x11_4 : Int) := of_decide_eq_true (by first | (with_reducible assumption) | assumption)
                 have q419 : x11_4 < (l1_1.length : Int) := of_decide_eq_true (by first | (with_reducible assumption) | assumption)
                 obtain ⟨ad419, A419_0, c419_0, e419, hx419_0, hl419_0, hi419_0⟩ := at_L31 HR1_1.out x11_4 p419 q419
                 have hw419_0 := hx419_0
                 obtain rfl : ad416 = ad419 := (by injection e419)
                 replace hx419_0 := (HB.out.cell (World.block_lt_of_cell? w _ hx419_0)).trans hx419_0
                 have HR419_0 := Aside0.mk hi419_0
                 have HC419_0 := Aside0.mk hl419_0
                 clear hi419_0 hl419_0
                 replace p419 := eq_true p419
                 replace q419 := eq_true q419
                 have ea_ := Option.some.inj (hx416_0.symm.trans hx419_0)
                 injection ea_ with ea_ en_ ec_
                 subst ea_
                 subst ec_
                 clear en_
                 refine start_ (n := 23) (S := fun w' => w'.cell? ⟨gb401, 0, none⟩ = some (.string a0_0) ∧ w'.cell? ⟨gb401, 1, none⟩ = some (.slice (some ad415) l0_1.length c0_1) ∧ w'.cell? ⟨gb402, 0, none⟩ = some (.string a1_0) ∧ w'.cell? ⟨gb402, 1, none⟩ = some (.slice (some ad416) l1_1.length c1_1) ∧ w'.cell? (ad415.add (x10_3).toNat) = some (.slice A415_0 (rd_L31 l0_1 x10_3).length c415_0) ∧ w'.cell? (ad416.add (x11_4).toNat) = some (.slice A416_0 (rd_L31 l1_1 x11_4).length c416_0) ∧ w'.cell? (ad415.add (x10_3).toNat) = some (.slice A415_0 (rd_L31 l0_1 x10_3).length c415_0) ∧ w'.cell? (ad416.add (x11_4).toNat) = some (.slice A416_0 (rd_L31 l1_1 x11_4).length c416_0)) (ds := []) #[false, false, false, false, false, false, false, false, false, false, false, false, false, false, false, false, false, false, false, false, false, false, false] (by kernel_rfl) rfl rfl ⟨(blk_cell BK401.out 0).trans rfl, (blk_cell BK401.out 1).trans rfl, (blk_cell BK402.out 0).trans rfl, (blk_cell BK402.out 1).trans rfl, ((HB.out.cell (World.block_lt_of_cell? w _ hw415_0)).trans hw415_0), ((HB.out.cell (World.block_lt_of_cell? w _ hw416_0)).trans hw416_0), ((HB.out.cell (World.block_lt_of_cell? w _ hw418_0)).trans hw418_0), ((HB.out.cell (World.block_lt_of_cell? w _ hw419_0)).trans hw419_0)⟩ (fun hHeld => ?_); refine with_tabW pairinglaw15_MeasureOrders.tab12 pairinglaw15_MeasureOrders.bits12 (fun HT_ HW_ => ?_)
                 generalize wr.drew = w132 at BK401 BK402 BK403 HB HR415_0 HR416_0 HR418_0 HR419_0 hx415_0 hx416_0 hx418_0 hx419_0 hHeld ⊢
                 refine pure_ (i := 0) (N := some 80) (v := ?_) (a' := ?_) #[true, false, false, false, false, false, false, false, false, false, false, false, false, false, false, false, false, false, false, false, false, false, false] rfl rfl (any_of HT_.out (by kernel_rfl)) (fun _ _ _ h => h) (Or.inl ⟨by rfl, ?_⟩) ?_ ?_
                 rotate_left
                 ·intro w'
                  go_simp
                  with_reducible rfl
                 rotate_left
                 ·simp only [Act.put, List.setIfInBounds_toArray, List.set_cons_zero, List.set_cons_succ, i64_w, i32_w]
                  rfl
                 refine pure_ (i := 2) (N := some 82) (v := ?_) (a' := ?_) #[true, false, true, false, false, false, false, false, false, false, false, false, false, false, false, false, false, false, false, false, false, false, false] rfl rfl (any_of HT_.out (by kernel_rfl)) (fun _ _ _ h => h) (Or.inl ⟨by rfl, ?_⟩) ?_ ?_
                 rotate_left
                 ·intro w'
                  go_simp
                  with_reducible rfl
                 rotate_left
                 ·simp only [Act.put, List.setIfInBounds_toArray, List.set_cons_zero, List.set_cons_succ, i64_w, i32_w]
                  rfl
                 refine pure_ (i := 5) (N := some 85) (v := ?_) (a' := ?_) #[true, false, true, false, false, true, false, false, false, false, false, false, false, false, false, false, false, false, false, false, false, false, false] rfl rfl (any_of HT_.out (by kernel_rfl)) (fun _ _ _ h => h) (Or.inl ⟨by rfl, ?_⟩) ?_ ?_
                 rotate_left
                 ·intro w'
                  go_simp
                  with_reducible rfl
                 rotate_left
                 ·simp only [Act.put, List.setIfInBounds_toArray, List.set_cons_zero, List.set_cons_succ, i64_w, i32_w]
                  rfl
                 refine pure_ (i := 7) (N := some 87) (v := ?_) (a' := ?_) #[true, false, true, false, false, true, false, true, false, false, false, false, false, false, false, false, false, false, false, false, false, false, false] rfl rfl (any_of HT_.out (by kernel_rfl)) (fun _ _ _ h => h) (Or.inl ⟨by rfl, ?_⟩) ?_ ?_
                 rotate_left
                 ·intro w'
                  go_simp
                  with_reducible rfl
                 rotate_left
                 ·simp only [Act.put, List.setIfInBounds_toArray, List.set_cons_zero, List.set_cons_succ, i64_w, i32_w]
                  rfl
                 refine pure_ (i := 11) (N := some 91) (v := ?_) (a' := ?_) #[true, false, true, false, false, true, false, true, false, false, false, true, false, false, false, false, false, false, false, false, false, false, false] rfl rfl (any_of HT_.out (by kernel_rfl)) (fun _ _ _ h => h) (Or.inl ⟨by rfl, ?_⟩) ?_ ?_
                 rotate_left
                 ·intro w'
                  go_simp
                  with_reducible rfl
                 rotate_left
                 ·simp only [Act.put, List.setIfInBounds_toArray, List.set_cons_zero, List.set_cons_succ, i64_w, i32_w]
                  rfl
                 refine pure_ (i := 13) (N := some 93) (v := ?_) (a' := ?_) #[true, false, true, false, false, true, false, true, false, false, false, true, false, true, false, false, false, false, false, false, false, false, false] rfl rfl (any_of HT_.out (by kernel_rfl)) (fun _ _ _ h => h) (Or.inl ⟨by rfl, ?_⟩) ?_ ?_
                 rotate_left
                 ·intro w'
                  go_simp
                  with_reducible rfl
                 rotate_left
                 ·simp only [Act.put, List.setIfInBounds_toArray, List.set_cons_zero, List.set_cons_succ, i64_w, i32_w]
                  rfl
                 refine pure_ (i := 16) (N := some 96) (v := ?_) (a' := ?_) #[true, false, true, false, false, true, false, true, false, false, false, true, false, true, false, false, true, false, false, false, false, false, false] rfl rfl (any_of HT_.out (by kernel_rfl)) (fun _ _ _ h => h) (Or.inl ⟨by rfl, ?_⟩) ?_ ?_
                 rotate_left
                 ·intro w'
                  go_simp
                  with_reducible rfl
                 rotate_left
                 ·simp only [Act.put, List.setIfInBounds_toArray, List.set_cons_zero, List.set_cons_succ, i64_w, i32_w]
                  rfl
                 refine pure_ (i := 18) (N := some 98) (v := ?_) (a' := ?_) #[true, false, true, false, false, true, false, true, false, false, false, true, false, true, false, false, true, false, true, false, false, false, false] rfl rfl (any_of HT_.out (by kernel_rfl)) (fun _ _ _ h => h) (Or.inl ⟨by rfl, ?_⟩) ?_ ?_
                 rotate_left
                 ·intro w'
                  go_simp
                  with_reducible rfl
                 rotate_left
                 ·simp only [Act.put, List.setIfInBounds_toArray, List.set_cons_zero, List.set_cons_succ, i64_w, i32_w]
                  rfl
                 refine take_ (i := 1) (N := some 81) (v := ?_) (a' := ?_) #[true, true, true, false, false, true, false, true, false, false, false, true, false, true, false, false, true, false, true, false, false, false, false] rfl rfl (take_ofW HT_.out HW_.out (by kernel_rfl)) (fun _ _ _ h => h) (Or.inl ⟨by rfl, ?_⟩) hHeld ?_ ?_
                 rotate_left
                 ·rintro w' ⟨s0, s1, s2, s3, s4, s5, s6, s7⟩
                  go_simp
                  with_reducible rfl
                 rotate_left
                 ·simp only [Act.put, List.setIfInBounds_toArray, List.set_cons_zero, List.set_cons_succ, i64_w, i32_w]
                  rfl
                 refine pure_ (i := 3) (N := some 83) (v := ?_) (a' := ?_) #[true, true, true, true, false, true, false, true, false, false, false, true, false, true, false, false, true, false, true, false, false, false, false] rfl rfl (any_of HT_.out (by kernel_rfl)) (fun _ _ _ h => h) (Or.inl ⟨by rfl, ?_⟩) ?_ ?_
                 rotate_left
                 ·intro w'
                  go_simp
                  with_reducible rfl
                 rotate_left
                 ·simp only [Act.put, List.setIfInBounds_toArray, List.set_cons_zero, List.set_cons_succ, i64_w, i32_w]
                  rfl
                 refine take_ (i := 4) (N := some 84) (v := ?_) (a' := ?_) #[true, true, true, true, true, true, false, true, false, false, false, true, false, true, false, false, true, false, true, false, false, false, false] rfl rfl (take_ofW HT_.out HW_.out (by kernel_rfl)) (fun _ _ _ h => h) (Or.inl ⟨by rfl, ?_⟩) hHeld ?_ ?_
                 rotate_left
                 ·rintro w' ⟨s0, s1, s2, s3, s4, s5, s6, s7⟩
                  go_simp
                  with_reducible rfl
                 rotate_left
                 ·simp only [Act.put, List.setIfInBounds_toArray, List.set_cons_zero, List.set_cons_succ, i64_w, i32_w]
                  rfl
                 refine take_ (i := 6) (N := some 86) (v := ?_) (a' := ?_) #[true, true, true, true, true, true, true, true, false, false, false, true, false, true, false, false, true, false, true, false, false, false, false] rfl rfl (take_ofW HT_.out HW_.out (by kernel_rfl)) (fun _ _ _ h => h) (Or.inl ⟨by rfl, ?_⟩) hHeld ?_ ?_
                 rotate_left
                 ·rintro w' ⟨s0, s1, s2, s3, s4, s5, s6, s7⟩
                  go_simp
                  with_reducible rfl
                 rotate_left
                 ·simp only [Act.put, List.setIfInBounds_toArray, List.set_cons_zero, List.set_cons_succ, i64_w, i32_w]
                  rfl
                 refine pure_ (i := 8) (N := some 88) (v := ?_) (a' := ?_) #[true, true, true, true, true, true, true, true, true, false, false, true, false, true, false, false, true, false, true, false, false, false, false] rfl rfl (any_of HT_.out (by kernel_rfl)) (fun _ _ _ h => h) (Or.inl ⟨by rfl, ?_⟩) ?_ ?_
                 rotate_left
                 ·intro w'
                  go_simp
                  with_reducible rfl
                 rotate_left
                 ·simp only [Act.put, List.setIfInBounds_toArray, List.set_cons_zero, List.set_cons_succ, i64_w, i32_w]
                  rfl
                 refine take_ (i := 9) (N := some 89) (v := ?_) (a' := ?_) #[true, true, true, true, true, true, true, true, true, true, false, true, false, true, false, false, true, false, true, false, false, false, false] rfl rfl (take_ofW HT_.out HW_.out (by kernel_rfl)) (fun _ _ _ h => h) (Or.inl ⟨by rfl, ?_⟩) hHeld ?_ ?_
                 rotate_left
                 ·rintro w' ⟨s0, s1, s2, s3, s4, s5, s6, s7⟩
                  go_simp
                  with_reducible rfl
                 rotate_left
                 ·simp only [Act.put, List.setIfInBounds_toArray, List.set_cons_zero, List.set_cons_succ, i64_w, i32_w]
                  rfl
                 refine take_ (i := 12) (N := some 92) (v := ?_) (a' := ?_) #[true, true, true, true, true, true, true, true, true, true, false, true, true, true, false, false, true, false, true, false, false, false, false] rfl rfl (take_ofW HT_.out HW_.out (by kernel_rfl)) (fun _ _ _ h => h) (Or.inl ⟨by rfl, ?_⟩) hHeld ?_ ?_
                 rotate_left
                 ·rintro w' ⟨s0, s1, s2, s3, s4, s5, s6, s7⟩
                  go_simp
                  with_reducible rfl
                 rotate_left
                 ·simp only [Act.put, List.setIfInBounds_toArray, List.set_cons_zero, List.set_cons_succ, i64_w, i32_w]
                  rfl
                 refine pure_ (i := 14) (N := some 94) (v := ?_) (a' := ?_) #[true, true, true, true, true, true, true, true, true, true, false, true, true, true, true, false, true, false, true, false, false, false, false] rfl rfl (any_of HT_.out (by kernel_rfl)) (fun _ _ _ h => h) (Or.inl ⟨by rfl, ?_⟩) ?_ ?_
                 rotate_left
                 ·intro w'
                  go_simp
                  with_reducible rfl
                 rotate_left
                 ·simp only [Act.put, List.setIfInBounds_toArray, List.set_cons_zero, List.set_cons_succ, i64_w, i32_w]
                  rfl
                 refine take_ (i := 15) (N := some 95) (v := ?_) (a' := ?_) #[true, true, true, true, true, true, true, true, true, true, false, true, true, true, true, true, true, false, true, false, false, false, false] rfl rfl (take_ofW HT_.out HW_.out (by kernel_rfl)) (fun _ _ _ h => h) (Or.inl ⟨by rfl, ?_⟩) hHeld ?_ ?_
                 rotate_left
                 ·rintro w' ⟨s0, s1, s2, s3, s4, s5, s6, s7⟩
                  go_simp
                  with_reducible rfl
                 rotate_left
                 ·simp only [Act.put, List.setIfInBounds_toArray, List.set_cons_zero, List.set_cons_succ, i64_w, i32_w]
                  rfl
                 refine take_ (i := 17) (N := some 97) (v := ?_) (a' := ?_) #[true, true, true, true, true, true, true, true, true, true, false, true, true, true, true, true, true, true, true, false, false, false, false] rfl rfl (take_ofW HT_.out HW_.out (by kernel_rfl)) (fun _ _ _ h => h) (Or.inl ⟨by rfl, ?_⟩) hHeld ?_ ?_
                 rotate_left
                 ·rintro w' ⟨s0, s1, s2, s3, s4, s5, s6, s7⟩
                  go_simp
                  with_reducible rfl
                 rotate_left
                 ·simp only [Act.put, List.setIfInBounds_toArray, List.set_cons_zero, List.set_cons_succ, i64_w, i32_w]
                  rfl
                 refine pure_ (i := 19) (N := some 99) (v := ?_) (a' := ?_) #[true, true, true, true, true, true, true, true, true, true, false, true, true, true, true, true, true, true, true, true, false, false, false] rfl rfl (any_of HT_.out (by kernel_rfl)) (fun _ _ _ h => h) (Or.inl ⟨by rfl, ?_⟩) ?_ ?_
                 rotate_left
                 ·intro w'
                  go_simp
                  with_reducible rfl
                 rotate_left
                 ·simp only [Act.put, List.setIfInBounds_toArray, List.set_cons_zero, List.set_cons_succ, i64_w, i32_w]
                  rfl
                 refine take_ (i := 20) (N := some 100) (v := ?_) (a' := ?_) #[true, true, true, true, true, true, true, true, true, true, false, true, true, true, true, true, true, true, true, true, true, false, false] rfl rfl (take_ofW HT_.out HW_.out (by kernel_rfl)) (fun _ _ _ h => h) (Or.inl ⟨by rfl, ?_⟩) hHeld ?_ ?_
                 rotate_left
                 ·rintro w' ⟨s0, s1, s2, s3, s4, s5, s6, s7⟩
                  go_simp
                  with_reducible rfl
                 rotate_left
                 ·simp only [Act.put, List.setIfInBounds_toArray, List.set_cons_zero, List.set_cons_succ, i64_w, i32_w]
                  rfl
                 refine one_ (i := 10) (N := some 90) #[true, true, true, true, true, true, true, true, true, true, true, true, true, true, true, true, true, true, true, true, true, false, false] rfl rfl (one_of HT_.out (by kernel_rfl)) (by decide) (fun K hK => ?_)
                 refine goes_ Tryz.func15 (by kernel_rfl) rfl #[.slice A415_0 (rd_L31 l0_1 x10_3).length c415_0, .slice A416_0 (rd_L31 l1_1 x11_4).length c416_0] (by rfl) rfl rfl hgl ?_
                 with_reducible refine (measure_CompareDuties.calls _ _ (rd_L31 l0_1 x10_3) _ _ (rd_L31 l1_1 x11_4) t417 _ ?side1 ?side2 ?side3 ?side4 A120.out).mono ?_
                 (case side1 => exact Kd.C_below HR415_0.out hbk)
                 (case side2 => exact HC415_0.out)
                 (case side3 => exact Kd.C_below HR416_0.out hbk)
                 (case side4 => exact HC416_0.out)
                 rintro e w133 ⟨rfl, hb⟩
                 refine ⟨_, rfl, ?_⟩
                 replace BK401 := Aside0.mk (blk_belowB BK401.out hb)
                 replace BK402 := Aside0.mk (blk_belowB BK402.out hb)
                 replace BK403 := Aside0.mk (blk_belowB BK403.out hb)
                 replace HB := Aside0.mk (below_step hbk hb)
                 (try clear hb)
                 (try clear hb2)
                 (try clear hk)
                 (try clear hi)
                 refine hK.out _ _ ⟨(blk_cell BK401.out 0).trans rfl, (blk_cell BK401.out 1).trans rfl, (blk_cell BK402.out 0).trans rfl, (blk_cell BK402.out 1).trans rfl, ((HB.out.cell (World.block_lt_of_cell? w _ hw415_0)).trans hw415_0), ((HB.out.cell (World.block_lt_of_cell? w _ hw416_0)).trans hw416_0), ((HB.out.cell (World.block_lt_of_cell? w _ hw418_0)).trans hw418_0), ((HB.out.cell (World.block_lt_of_cell? w _ hw419_0)).trans hw419_0)⟩ (fun hHeld => ?_)
                 clear hK K
                 refine norm_ (a' := ?_) ?_ ?_
                 rotate_left
                 ·show Act.put _ (some 90) _ = _
                  simp only [Act.put, List.setIfInBounds_toArray, List.set_cons_zero, List.set_cons_succ, i64_w, i32_w]
                  rfl
                 refine one_ (i := 21) (N := some 101) #[true, true, true, true, true, true, true, true, true, true, true, true, true, true, true, true, true, true, true, true, true, true, false] rfl rfl (one_of HT_.out (by kernel_rfl)) (by decide) (fun K hK => ?_)
                 refine goes_ Tryz.func16 (by kernel_rfl) rfl #[.slice A415_0 (rd_L31 l0_1 x10_3).length c415_0, .slice A416_0 (rd_L31 l1_1 x11_4).length c416_0] (by rfl) rfl rfl hgl ?_
                 with_reducible refine (pairingref14_CompareDuties.calls k4 _ _ (rd_L31 l0_1 x10_3) _ _ (rd_L31 l1_1 x11_4) t420 _ ?side1 ?side2 ?side3 ?side4 A121.out).mono ?_
                 (case side1 => exact Kd.C_below HR418_0.out hbk)
                 (case side2 => exact HC418_0.out)
                 (case side3 => exact Kd.C_below HR419_0.out hbk)
                 (case side4 => exact HC419_0.out)
                 rintro e w134 ⟨rfl, hb⟩
                 refine ⟨_, rfl, ?_⟩
                 replace BK401 := Aside0.mk (blk_belowB BK401.out hb)
                 replace BK402 := Aside0.mk (blk_belowB BK402.out hb)
                 replace BK403 := Aside0.mk (blk_belowB BK403.out hb)
                 replace HB := Aside0.mk (below_step hbk hb)
                 (try clear hb)
                 (try clear hb2)
                 (try clear hk)
                 (try clear hi)
                 refine hK.out _ _ ⟨(blk_cell BK401.out 0).trans rfl, (blk_cell BK401.out 1).trans rfl, (blk_cell BK402.out 0).trans rfl, (blk_cell BK402.out 1).trans rfl, ((HB.out.cell (World.block_lt_of_cell? w _ hw415_0)).trans hw415_0), ((HB.out.cell (World.block_lt_of_cell? w _ hw416_0)).trans hw416_0), ((HB.out.cell (World.block_lt_of_cell? w _ hw418_0)).trans hw418_0), ((HB.out.cell (World.block_lt_of_cell? w _ hw419_0)).trans hw419_0)⟩ (fun hHeld => ?_)
                 clear hK K
                 refine norm_ (a' := ?_) ?_ ?_
                 rotate_left
                 ·show Act.put _ (some 101) _ = _
                  simp only [Act.put, List.setIfInBounds_toArray, List.set_cons_zero, List.set_cons_succ, i64_w, i32_w]
                  rfl
                 refine pure_ (i := 22) (N := some 102) (v := ?_) (a' := ?_) #[true, true, true, true, true, true, true, true, true, true, true, true, true, true, true, true, true, true, true, true, true, true, true] rfl rfl (any_of HT_.out (by kernel_rfl)) (fun _ _ _ h => h) (Or.inl ⟨by rfl, ?_⟩) ?_ ?_
                 rotate_left
                 ·intro w'
                  go_simp
                  with_reducible rfl
                 rotate_left
                 ·simp only [Act.put, List.setIfInBounds_toArray, List.set_cons_zero, List.set_cons_succ, i64_w, i32_w]
                  rfl
                 refine done_ (done_of HT_.out (by kernel_rfl)) ?_
                 try go_wp2
                 go_ret
                 exact ⟨hrf, hbk⟩
               ·rw [if_neg c119] at H
                exact absurd H (by simp)
              ·rw [if_neg c118] at H
               exact absurd H (by simp)
             ·rw [if_neg c117] at H
              exact absurd H (by simp)
            ·rw [if_neg c116] at H
             have c116b0 : decide (x11_4 < (l1_1.length : Int)) = false := decide_eq_false c116
             clear c116
             have H' := Aside0.mk H
             clear H
             have hnb135 := NB402_401.out
             have hnc135 := NB401_402.out
             have hnb136 := NB402_403.out
             have hnc136 := NB403_402.out
             obtain ⟨hcz137_0, hcz137_1⟩ := blk_cs2 BK402.out
             obtain ⟨hfz137_0, hfz137_1⟩ := blk_fs2 BK402.out
             go_wp2
             go_roundg k4
             case measure => have := HJ3.out; have := HJ38.out; have := HK3.out; have := HK4.out; omega
             case rel => exact ⟨(wrap64 (x10_3 + 1)), (by first | rfl | (simp; done) | (simp [*]; done)), H', ⟨by have := HJ3.out; have := HJ38.out; have := HK3.out; have := HK4.out; omega⟩, ⟨by (with_reducible repeat (first | refine blk_drewN ?_ _ | refine blk_drew ?_ | refine blk_alloc ?_ _)); exact BK401.out⟩, ⟨by (with_reducible repeat (first | refine blk_drewN ?_ _ | refine blk_drew ?_ | refine blk_alloc ?_ _)); exact BK402.out⟩, ⟨by (with_reducible repeat (first | refine blk_drewN ?_ _ | refine blk_drew ?_ | refine blk_alloc ?_ _)); exact BK403.out⟩, ⟨hbk⟩⟩
         ·rw [if_neg c112] at H
          have c112b0 : decide (x10_3 < (l0_1.length : Int)) = false := decide_eq_false c112
          clear c112
          replace H := Option.bind_eq_some_iff.mp H
          obtain ⟨t414, A1380, H⟩ := H
          replace H : (some t414) = some r := H
          have A138 := Aside0.mk A1380
          clear A1380
          obtain rfl := Option.some.inj H
          have hnb139 := NB401_402.out
          have hnc139 := NB402_401.out
          have hnb140 := NB401_403.out
          have hnc140 := NB403_401.out
          obtain ⟨hcz141_0, hcz141_1⟩ := blk_cs2 BK401.out
          obtain ⟨hfz141_0, hfz141_1⟩ := blk_fs2 BK401.out
          go_wp2_with (first | ((with_reducible refine gate_callee (f := 6) rfl ?_); refine goesL_ (some 103) rfl rfl Tryz.func6 (by kernel_rfl) rfl #[] rfl hgl ?_; (with_reducible refine (pairinglaw15_awake.calls (hGL0 := ?sideGL) k3  t414 _ A138.out).mono ?_); (case sideGL => exact gl_below HGL.out hbk); rintro e w142 ⟨rfl, hb⟩; refine ⟨_, rfl, ?_⟩; replace BK401 := Aside0.mk (blk_belowB BK401.out hb); replace BK402 := Aside0.mk (blk_belowB BK402.out hb); replace BK403 := Aside0.mk (blk_belowB BK403.out hb); replace HB := Aside0.mk (below_step hbk hb); (try clear hb); (try clear hb2); (try clear hk); (try clear hi)))
          go_ret
          exact ⟨hrf, hbk⟩
end Go.Proofs.YtilnppdognejbaaGreatDoor.P
namespace Go.Proofs.YtilnppdognejbaaGreatDoor.P
open Go.RowKit Go.Proofs.YtilnppdognejbaaGreatDoorW.PrintWords Go.Proofs.YtilnppdognejbaaGreatDoorW.PrintLast Go.Proofs.YtilnppdognejbaaGreatDoorW.PrintMore
attribute [local go_sem] max2_int min2_int max_two min_two max_three min_three max_four min_four
set_option linter.unusedVariables false
set_option linter.unusedSimpArgs false
/-- A comparison that is a total preorder. -/
structure Ord {α : Type} (c : α → α → Int) : Prop where
  anti : ∀ x y, c y x = -c x y
  tr : ∀ x y z, c x y ≤ 0 → c y z ≤ 0 → c x z ≤ 0
theorem Ord.self {α : Type} {c : α → α → Int} (h : Ord c) (x : α) : c x x = 0 := by have := h.anti x x; omega
theorem Ord.eq {α : Type} {c : α → α → Int} (h : Ord c) {x y z : α} (h1 : c x y = 0) (h2 : c y z = 0) : c x z = 0 := by
  have a := h.tr x y z (by omega) (by omega)
  have b := h.tr z y x (by have := h.anti y z; omega) (by have := h.anti x y; omega)
  have := h.anti x z
  omega
theorem Ord.ltl {α : Type} {c : α → α → Int} (h : Ord c) {x y z : α} (h1 : c x y < 0) (h2 : c y z ≤ 0) : c x z < 0 := by
  have a := h.tr x y z (by omega) (by omega)
  by_cases e : c x z = 0
  · have b := h.tr y z x h2 (by have := h.anti x z; omega)
    have := h.anti x y
    omega
  · omega
theorem Ord.ltr {α : Type} {c : α → α → Int} (h : Ord c) {x y z : α} (h1 : c x y ≤ 0) (h2 : c y z < 0) : c x z < 0 := by
  have a := h.tr x y z (by omega) (by omega)
  by_cases e : c x z = 0
  · have b := h.tr z x y (by have := h.anti x z; omega) h1
    have := h.anti y z
    omega
  · omega
theorem cmpL_ord {α : Type} {c : α → α → Int} (h : Ord c) : Ord (cmpL c) := by
  constructor
  · intro x
    induction x with
    | nil => intro y; cases y <;> rfl
    | cons a xs ih =>
      intro y
      cases y with
      | nil => rfl
      | cons b ys =>
        have e := h.anti a b
        simp only [cmpL]
        by_cases hz : c a b = 0
        · rw [if_pos hz, if_pos (by omega), ih ys]
        · rw [if_neg hz, if_neg (by omega), e]
  · intro x
    induction x with
    | nil => intro y z _ h2; cases z <;> simp [cmpL]
    | cons a xs ih =>
      intro y z h1 h2
      cases y with
      | nil => simp [cmpL] at h1
      | cons b ys =>
        cases z with
        | nil => simp [cmpL] at h2
        | cons d zs =>
          simp only [cmpL] at h1 h2 ⊢
          by_cases p : c a b = 0
          · rw [if_pos p] at h1
            by_cases q : c b d = 0
            · rw [if_pos q] at h2
              rw [if_pos (h.eq p q)]
              exact ih ys zs h1 h2
            · rw [if_neg q] at h2
              have := h.ltr (x := a) (y := b) (z := d) (by omega) (by omega)
              rw [if_neg (by omega)]
              omega
          · rw [if_neg p] at h1
            have h3 : c b d ≤ 0 := by
              by_cases q : c b d = 0
              · omega
              · rw [if_neg q] at h2; exact h2
            have := h.ltl (x := a) (y := b) (z := d) (by omega) h3
            rw [if_neg (by omega)]
            omega
theorem cmpT_ord : Ord cmpT := by
  constructor
  · rintro ⟨a, p⟩ ⟨b, q⟩
    unfold cmpT
    rcases Int.lt_trichotomy a b with h | h | h
    · have : ¬ b < a := by omega
      simp [h, this]
    · subst h; cases p <;> cases q <;> simp
    · have : ¬ a < b := by omega
      simp [h, this]
  · rintro ⟨a, p⟩ ⟨b, q⟩ ⟨d, r⟩
    unfold cmpT
    simp only
    intro h1 h2
    by_cases u1 : a < b
    · by_cases u2 : b < d
      · rw [if_pos (by omega)]; omega
      · by_cases u3 : d < b
        · rw [if_neg u2, if_pos u3] at h2; omega
        · rw [if_pos (by omega)]; omega
    · by_cases u3 : b < a
      · rw [if_neg u1, if_pos u3] at h1; omega
      · obtain rfl : a = b := by omega
        by_cases u2 : a < d
        · rw [if_pos u2]; omega
        · by_cases u4 : d < a
          · rw [if_neg u2, if_pos u4] at h2; omega
          · obtain rfl : a = d := by omega
            revert h1 h2
            cases p <;> cases q <;> cases r <;> simp
def cU (a b : UInt8) : Int := if a < b then -1 else if b < a then 1 else 0
theorem cU_ord : Ord cU := by
  have tri : ∀ x y : UInt8, x < y ∨ x = y ∨ y < x := fun x y => by
    by_cases h : x < y
    · exact .inl h
    · by_cases e : x = y
      · exact .inr (.inl e)
      · exact .inr (.inr (by rw [UInt8.lt_iff_toNat_lt] at h ⊢; have : x.toNat ≠ y.toNat := fun q => e (UInt8.toNat_inj.mp q); omega))
  have ltn : ∀ {x y : UInt8}, x < y → ¬ y < x := fun {x y} h g => by rw [UInt8.lt_iff_toNat_lt] at h g; omega
  have le : ∀ {x y : UInt8}, cU x y ≤ 0 → x.toNat ≤ y.toNat := fun {x y} h => by
    unfold cU at h
    rcases tri x y with g | g | g
    · rw [UInt8.lt_iff_toNat_lt] at g; omega
    · subst g; omega
    · rw [if_neg (ltn g), if_pos g] at h; omega
  constructor
  · intro x y
    unfold cU
    rcases tri x y with g | g | g
    · rw [if_pos g, if_neg (ltn g), if_pos g]; rfl
    · subst g; simp
    · rw [if_pos g, if_neg (ltn g), if_pos g]
  · intro x y z h1 h2
    have := le h1
    have := le h2
    unfold cU
    by_cases g : x < z
    · rw [if_pos g]; omega
    · rw [if_neg g, if_neg (by rw [UInt8.lt_iff_toNat_lt]; omega)]
      omega
theorem bytes_lex : ∀ x y : List UInt8, Lib.compareBytes x y = cmpL cU x y
  | [], [] => rfl
  | [], _ :: _ => rfl
  | _ :: _, [] => rfl
  | a :: x, b :: y => by
    have ih := bytes_lex x y
    simp only [Lib.compareBytes, cmpL]
    by_cases h1 : a < b
    · have e : cU a b = -1 := by unfold cU; rw [if_pos h1]
      rw [if_pos h1, e, if_neg (by omega)]
    · by_cases h2 : b < a
      · have e : cU a b = 1 := by unfold cU; rw [if_neg h1, if_pos h2]
        rw [if_neg h1, if_pos h2, e, if_neg (by omega)]
      · have e : cU a b = 0 := by unfold cU; rw [if_neg h1, if_neg h2]
        rw [if_neg h1, if_neg h2, e, if_pos rfl, ih]
theorem bytes_less : ∀ x y : List UInt8, Lib.compareBytes x y = if x = y then 0 else if Op.bytesLess x y = true then -1 else 1
  | [], [] => rfl
  | [], _ :: _ => by simp [Lib.compareBytes, Op.bytesLess]
  | _ :: _, [] => by simp [Lib.compareBytes, Op.bytesLess]
  | a :: x, b :: y => by
    have ih := bytes_less x y
    by_cases h1 : a < b
    · have h3 : ¬ a = b := fun h => by subst h; exact absurd h1 (by rw [UInt8.lt_iff_toNat_lt]; omega)
      simp [Lib.compareBytes, Op.bytesLess, h1, h3]
    · by_cases h4 : a = b
      · subst h4
        simp [Lib.compareBytes, Op.bytesLess, h1, ih]
      · have h2 : b < a := by
          rw [UInt8.lt_iff_toNat_lt] at h1 ⊢
          have h5 : a.toNat ≠ b.toNat := fun h => h4 (UInt8.toNat_inj.mp h)
          omega
        simp [Lib.compareBytes, Op.bytesLess, h1, h2, h4]
/-- The order of pairings. -/
def cmpP (a : ByteArray) (l : List (List S50)) (b : ByteArray) (m : List (List S50)) : Int := if Lib.compareBytes a.toList b.toList = 0 then cmpL (cmpL cmpT) l m else Lib.compareBytes a.toList b.toList
theorem cmpP_ord : Ord (fun x y : ByteArray × List (List S50) => cmpP x.1 x.2 y.1 y.2) := by
  have h1 : Ord (fun x y : List UInt8 => Lib.compareBytes x y) := by
    rw [show (fun x y : List UInt8 => Lib.compareBytes x y) = cmpL cU from funext fun x => funext fun y => bytes_lex x y]
    exact cmpL_ord cU_ord
  have h2 := cmpL_ord (cmpL_ord cmpT_ord)
  constructor
  · rintro ⟨a, l⟩ ⟨b, m⟩
    have e := h1.anti a.toList b.toList
    simp only [cmpP] at e ⊢
    by_cases z : Lib.compareBytes a.toList b.toList = 0
    · rw [if_pos z, if_pos (by omega)]; exact h2.anti l m
    · rw [if_neg z, if_neg (by omega)]; exact e
  · rintro ⟨a, l⟩ ⟨b, m⟩ ⟨d, n⟩ p q
    simp only [cmpP] at p q ⊢
    by_cases z1 : Lib.compareBytes a.toList b.toList = 0
    · rw [if_pos z1] at p
      by_cases z2 : Lib.compareBytes b.toList d.toList = 0
      · rw [if_pos z2] at q
        rw [if_pos (h1.eq (x := a.toList) (y := b.toList) (z := d.toList) z1 z2)]
        exact h2.tr _ _ _ p q
      · rw [if_neg z2] at q
        have := h1.ltr (x := a.toList) (y := b.toList) (z := d.toList) (by omega) (by omega)
        rw [if_neg (by omega)]
        omega
    · rw [if_neg z1] at p
      have h3 : Lib.compareBytes b.toList d.toList ≤ 0 := by
        by_cases z2 : Lib.compareBytes b.toList d.toList = 0
        · omega
        · rw [if_neg z2] at q; exact q
      have := h1.ltl (x := a.toList) (y := b.toList) (z := d.toList) (by omega) h3
      rw [if_neg (by omega)]
      omega
/-- It answers so from some fuel on. -/
def Ev {α : Type} (f : Nat → Option α) (v : α) : Prop := ∃ K, ∀ k, K ≤ k → f k = some v
theorem Ev.succ {α : Type} {f : Nat → Option α} {v : α} (h : Ev (fun k => f (k + 1)) v) : Ev f v := by
  obtain ⟨K, h⟩ := h
  refine ⟨K + 1, fun k hk => ?_⟩
  obtain ⟨j, rfl⟩ : ∃ j, k = j + 1 := ⟨k - 1, by omega⟩
  exact h j (by omega)
theorem Ev.const {α : Type} {o : Option α} {v : α} (h : o = some v) : Ev (fun _ => o) v := ⟨0, fun _ _ => h⟩
theorem Ev.bind {α β : Type} {f : Nat → Option α} {v : α} {g : Nat → α → Option β} {u : β} (h : Ev f v) (h2 : Ev (fun k => g k v) u) : Ev (fun k => (f k).bind (g k)) u := by
  obtain ⟨K, h⟩ := h
  obtain ⟨M, h2⟩ := h2
  refine ⟨max K M, fun k hk => ?_⟩
  simp only [h k (by omega), Option.bind_some]
  exact h2 k (by omega)
theorem wrapS (x : Int) (h0 : 0 ≤ x) (h : x < 9223372036854775807) : wrap64 (x + 1) = x + 1 := IntWalk.wrap64_in _ (by omega)
theorem or_ev (x y : Int) : Ev (fun k => cmp_Or_int.f k [x, y]) (if x = 0 then y else x) := by
  refine ⟨4, fun k hk => ?_⟩
  obtain ⟨j, rfl⟩ : ∃ j, k = j + 4 := ⟨k - 4, by omega⟩
  have e1 : wrap64 1 = 1 := IntWalk.wrap64_in _ (by omega)
  have e2 : wrap64 2 = 2 := IntWalk.wrap64_in _ (by omega)
  by_cases hx : x = 0
  · subst hx
    by_cases hy : y = 0
    · subst hy; simp [cmp_Or_int.f, cmp_Or_int.l0, rd, e1, e2]
    · simp [cmp_Or_int.f, cmp_Or_int.l0, rd, e1, e2, hy]
  · simp [cmp_Or_int.f, cmp_Or_int.l0, rd, hx]
theorem mcp_ev (a : ByteArray) (l : List (List S50)) (b : ByteArray) (m : List (List S50)) : Ev (fun k => measure_ComparePairings.f k a l b m) (cmpP a l b m) := by
  obtain ⟨K, h⟩ := or_ev (Lib.compareBytes a.toList b.toList) (cmpL (cmpL cmpT) l m)
  refine ⟨K, fun k hk => ?_⟩
  unfold measure_ComparePairings.f strings_Compare.f api_Duty.f
  simp only [Option.bind_some, h k hk]
  unfold cmpP
  rfl
theorem ref_compare (x y : Int) : pairingref14_compare.f x y = some (if x < y then -1 else if x > y then 1 else 0) := by
  unfold pairingref14_compare.f pairingref14_flag.f
  by_cases h : x < y
  · simp [h]
  · by_cases h2 : y < x <;> simp [h, h2]
theorem ref_tasks (x y : S50) : pairingref14_compareTasks.f x.f0 x.f1 y.f0 y.f1 = some (cmpT x y) := by
  obtain ⟨a, p⟩ := x
  obtain ⟨b, q⟩ := y
  unfold pairingref14_compareTasks.f pairingref14_flag.f cmpT
  rcases Int.lt_trichotomy a b with h | h | h
  · have : ¬ a = b := by omega
    simp [h, this]
  · subst h
    cases p <;> cases q <;> simp <;> exact IntWalk.wrap64_in _ (by omega)
  · have h1 : ¬ a = b := by omega
    have h2 : ¬ a < b := by omega
    simp [h, h1, h2]
theorem ref_len {α : Type} (c : α → α → Int) (l m : List α) (i : Nat) (h1 : i ≤ l.length) (h2 : i ≤ m.length) (h3 : ¬ (i < l.length ∧ i < m.length)) : cmpL c (l.drop i) (m.drop i) = (if (l.length : Int) < (m.length : Int) then -1 else if (l.length : Int) > (m.length : Int) then 1 else 0) := by
  by_cases p : i < l.length
  · rw [cmpL_end c l m i p (by omega), if_neg (by omega), if_pos (by omega)]
  · rw [cmpL_done c l m i (by omega)]
    by_cases q : i < m.length
    · rw [if_pos q, if_pos (by omega)]
    · rw [if_neg q, if_neg (by omega), if_neg (by omega)]
theorem ref_cd_ev (l m : List S50) (hl : l.length ≤ 9223372036854775807) : ∀ (d i : Nat), l.length - i = d → i ≤ l.length → i ≤ m.length → Ev (fun k => pairingref14_CompareDuties.l0 k l m (i : Int)) (cmpL cmpT (l.drop i) (m.drop i))
  | d, i, hd, h1, h2 => by
    apply Ev.succ
    simp only [pairingref14_CompareDuties.l0]
    by_cases p : i < l.length
    · by_cases q : i < m.length
      · have p' : (i : Int) < (l.length : Int) := by omega
        have q' : (i : Int) < (m.length : Int) := by omega
        have z : 0 ≤ (i : Int) := by omega
        simp only [if_pos p', decide_eq_true q']
        apply Ev.succ
        simp only [pairingref14_CompareDuties.j1, if_true, if_pos z, if_pos p', if_pos q', ref_tasks, Option.bind_some]
        rw [cmpL_step cmpT l m i p q, ← rdTask l i p, ← rdTask m i q]
        by_cases e : cmpT (rd_T50 l (i : Int)) (rd_T50 m (i : Int)) = 0
        · simp only [if_pos e]
          rw [wrapS _ z (by omega), show (i : Int) + 1 = ((i + 1 : Nat) : Int) from by omega]
          cases d with
          | zero => omega
          | succ d => exact ref_cd_ev l m hl d (i + 1) (by omega) (by omega) (by omega)
        · simp only [if_neg e]
          exact Ev.const rfl
      · have p' : (i : Int) < (l.length : Int) := by omega
        have q' : ¬ (i : Int) < (m.length : Int) := by omega
        simp only [if_pos p', decide_eq_false q']
        apply Ev.succ
        simp only [pairingref14_CompareDuties.j1, Bool.false_eq_true, if_false, ref_compare, Option.bind_some]
        exact Ev.const (by rw [ref_len cmpT l m i h1 h2 (by omega)])
    · have p' : ¬ (i : Int) < (l.length : Int) := by omega
      simp only [if_neg p']
      apply Ev.succ
      simp only [pairingref14_CompareDuties.j1, Bool.false_eq_true, if_false, ref_compare, Option.bind_some]
      exact Ev.const (by rw [ref_len cmpT l m i h1 h2 (by omega)])
theorem ref_cd (l m : List S50) (hl : l.length ≤ 9223372036854775807) : Ev (fun k => pairingref14_CompareDuties.f k l m) (cmpL cmpT l m) := by
  have := ref_cd_ev l m hl l.length 0 (by omega) (by omega) (by omega)
  simpa [pairingref14_CompareDuties.f] using this
theorem ref_cp_ev (a b : ByteArray) (l m : List (List S50)) (hl : l.length ≤ 9223372036854775807) (hi : ∀ x ∈ l, x.length ≤ 9223372036854775807) : ∀ (d i : Nat), l.length - i = d → i ≤ l.length → i ≤ m.length → Ev (fun k => pairingref14_ComparePairings.l0 k (i : Int) a l b m) (cmpL (cmpL cmpT) (l.drop i) (m.drop i))
  | d, i, hd, h1, h2 => by
    apply Ev.succ
    simp only [pairingref14_ComparePairings.l0]
    by_cases p : i < l.length
    · by_cases q : i < m.length
      · have p' : (i : Int) < (l.length : Int) := by omega
        have q' : (i : Int) < (m.length : Int) := by omega
        have z : 0 ≤ (i : Int) := by omega
        simp only [if_pos p', decide_eq_true q']
        apply Ev.succ
        simp only [pairingref14_ComparePairings.j1, if_true, if_pos z, if_pos p', if_pos q']
        rw [cmpL_step (cmpL cmpT) l m i p q, ← rdDuty l i p, ← rdDuty m i q]
        refine Ev.bind (ref_cd _ _ (by rw [rdDuty l i p]; exact hi _ (List.getElem_mem p))) ?_
        by_cases e : cmpL cmpT (rd_L31 l (i : Int)) (rd_L31 m (i : Int)) = 0
        · simp only [if_pos e]
          rw [wrapS _ z (by omega), show (i : Int) + 1 = ((i + 1 : Nat) : Int) from by omega]
          cases d with
          | zero => omega
          | succ d => exact ref_cp_ev a b l m hl hi d (i + 1) (by omega) (by omega) (by omega)
        · simp only [if_neg e]
          exact Ev.const rfl
      · have p' : (i : Int) < (l.length : Int) := by omega
        have q' : ¬ (i : Int) < (m.length : Int) := by omega
        simp only [if_pos p', decide_eq_false q']
        apply Ev.succ
        simp only [pairingref14_ComparePairings.j1, Bool.false_eq_true, if_false, ref_compare, Option.bind_some]
        exact Ev.const (by rw [ref_len (cmpL cmpT) l m i h1 h2 (by omega)])
    · have p' : ¬ (i : Int) < (l.length : Int) := by omega
      simp only [if_neg p']
      apply Ev.succ
      simp only [pairingref14_ComparePairings.j1, Bool.false_eq_true, if_false, ref_compare, Option.bind_some]
      exact Ev.const (by rw [ref_len (cmpL cmpT) l m i h1 h2 (by omega)])
theorem ref_cp (a b : ByteArray) (l m : List (List S50)) (hl : l.length ≤ 9223372036854775807) (hi : ∀ x ∈ l, x.length ≤ 9223372036854775807) : Ev (fun k => pairingref14_ComparePairings.f k a l b m) (cmpP a l b m) := by
  unfold pairingref14_ComparePairings.f cmpP
  rw [bytes_less]
  by_cases e : a.toList = b.toList
  · simp only [if_pos e]
    have := ref_cp_ev a b l m hl hi l.length 0 (by omega) (by omega) (by omega)
    simpa using this
  · simp only [if_neg e]
    by_cases f : Op.bytesLess a.toList b.toList = true
    · simp only [if_pos f]; exact Ev.const rfl
    · simp only [if_neg f]; exact Ev.const rfl
theorem light_ev (a : ByteArray) (l : List (List S50)) (hl : l.length ≤ 9223372036854775807) : ∀ (d i : Nat) (n : Int), l.length - i = d → i ≤ l.length → ∃ b, Ev (fun k => pairinglaw15_LightPairing.l0 k n (i : Int) a l) b
  | d, i, n, hd, h1 => by
    by_cases p : i < l.length
    · have p' : (i : Int) < (l.length : Int) := by omega
      have z : 0 ≤ (i : Int) := by omega
      by_cases q : n < 1000
      · cases d with
        | zero => omega
        | succ d =>
          obtain ⟨b, hb⟩ := light_ev a l hl d (i + 1) (wrap64 ((wrap64 (n + 1)) + ((rd_L31 l (i : Int)).length : Int))) (by omega) (by omega)
          refine ⟨b, Ev.succ ?_⟩
          simp only [pairinglaw15_LightPairing.l0, if_pos p', if_pos q, if_pos z]
          rw [wrapS _ z (by omega), show (i : Int) + 1 = ((i + 1 : Nat) : Int) from by omega]
          exact hb
      · refine ⟨decide (n < 100), Ev.succ ?_⟩
        simp only [pairinglaw15_LightPairing.l0, if_pos p', if_neg q]
        exact Ev.const rfl
    · have p' : ¬ (i : Int) < (l.length : Int) := by omega
      refine ⟨decide (n < 100), Ev.succ ?_⟩
      simp only [pairinglaw15_LightPairing.l0, if_neg p']
      exact Ev.const rfl
theorem light (a : ByteArray) (l : List (List S50)) (hl : l.length ≤ 9223372036854775807) : ∃ b, Ev (fun k => pairinglaw15_LightPairing.f k a l) b := by
  obtain ⟨b, hb⟩ := light_ev a l hl l.length 0 0 (by omega) (by omega)
  exact ⟨b, by simpa [pairinglaw15_LightPairing.f] using hb⟩
theorem bounded (l : List (List S50)) (hi : ∀ x ∈ l, x.length ≤ 9223372036854775807) (i : Nat) (p : i < l.length) : (rd_L31 l (i : Int)).length ≤ 9223372036854775807 := by
  rw [rdDuty l i p]
  exact hi _ (List.getElem_mem p)
theorem awake_ev : Ev (fun k => pairinglaw15_awake.f k) true := Ev.const rfl
theorem mo_l1 (a b : ByteArray) (l m : List (List S50)) (hl : l.length ≤ 9223372036854775807) (hm : m.length ≤ 9223372036854775807) (hi : ∀ x ∈ l, x.length ≤ 9223372036854775807) (i : Nat) (p : i < l.length)
    (hnext : Ev (fun k => pairinglaw15_MeasureOrders.l0 k ((i + 1 : Nat) : Int) a l b m) true) : ∀ (d j : Nat), m.length - j = d → j ≤ m.length → Ev (fun k => pairinglaw15_MeasureOrders.l1 k (i : Int) (j : Int) a l b m) true
  | d, j, hd, h2 => by
    apply Ev.succ
    simp only [pairinglaw15_MeasureOrders.l1]
    have z : 0 ≤ (i : Int) := by omega
    have z2 : 0 ≤ (j : Int) := by omega
    have p' : (i : Int) < (l.length : Int) := by omega
    by_cases q : j < m.length
    · have q' : (j : Int) < (m.length : Int) := by omega
      simp only [if_pos q', if_pos z, if_pos p', if_pos z2, cd_f, Option.bind_some]
      refine Ev.bind (ref_cd _ _ (bounded l hi i p)) ?_
      simp only [if_true]
      rw [wrapS _ z2 (by omega), show (j : Int) + 1 = ((j + 1 : Nat) : Int) from by omega]
      cases d with
      | zero => omega
      | succ d => exact mo_l1 a b l m hl hm hi i p hnext d (j + 1) (by omega) (by omega)
    · have q' : ¬ (j : Int) < (m.length : Int) := by omega
      simp only [if_neg q']
      rw [wrapS _ z (by omega), show (i : Int) + 1 = ((i + 1 : Nat) : Int) from by omega]
      exact hnext
theorem mo_l0 (a b : ByteArray) (l m : List (List S50)) (hl : l.length ≤ 9223372036854775807) (hm : m.length ≤ 9223372036854775807) (hi : ∀ x ∈ l, x.length ≤ 9223372036854775807) : ∀ (d i : Nat), l.length - i = d → i ≤ l.length → Ev (fun k => pairinglaw15_MeasureOrders.l0 k (i : Int) a l b m) true
  | d, i, hd, h2 => by
    apply Ev.succ
    simp only [pairinglaw15_MeasureOrders.l0]
    by_cases p : i < l.length
    · have p' : (i : Int) < (l.length : Int) := by omega
      simp only [if_pos p']
      cases d with
      | zero => omega
      | succ d => exact mo_l1 a b l m hl hm hi i p (mo_l0 a b l m hl hm hi d (i + 1) (by omega) (by omega)) m.length 0 (by omega) (by omega)
    · have p' : ¬ (i : Int) < (l.length : Int) := by omega
      simp only [if_neg p']
      exact Ev.bind awake_ev (Ev.const rfl)
theorem tri (a : ByteArray) (l : List (List S50)) (b : ByteArray) (m : List (List S50)) : cmpP a l b m = -1 ∨ cmpP a l b m = 0 ∨ cmpP a l b m = 1 := by
  have h1 : ∀ {α : Type} (c : α → α → Int) (hc : ∀ x y, c x y = -1 ∨ c x y = 0 ∨ c x y = 1) (l m : List α), cmpL c l m = -1 ∨ cmpL c l m = 0 ∨ cmpL c l m = 1 := by
    intro α c hc l
    induction l with
    | nil => intro m; cases m <;> simp [cmpL]
    | cons x xs ih =>
      intro m
      cases m with
      | nil => simp [cmpL]
      | cons y ys =>
        simp only [cmpL]
        by_cases z : c x y = 0
        · rw [if_pos z]; exact ih ys
        · rw [if_neg z]; exact hc x y
  have h2 : ∀ x y : S50, cmpT x y = -1 ∨ cmpT x y = 0 ∨ cmpT x y = 1 := by
    intro x y
    unfold cmpT
    repeat' split
    all_goals simp
  unfold cmpP
  by_cases z : Lib.compareBytes a.toList b.toList = 0
  · rw [if_pos z]; exact h1 _ (h1 _ h2) l m
  · rw [if_neg z, bytes_less]
    repeat' split
    all_goals simp
theorem orders_law (a : ByteArray) (l : List (List S50)) (b : ByteArray) (m : List (List S50)) (c : ByteArray) (n : List (List S50)) (hl : l.length ≤ 9223372036854775807) (hm : m.length ≤ 9223372036854775807) (hn : n.length ≤ 9223372036854775807) (hi : ∀ x ∈ l, x.length ≤ 9223372036854775807) :
    ∃ k, pairinglaw15_MeasureOrders.f k a l b m c n = some true := by
  have hA : Ev (fun k => pairinglaw15_MeasureOrders.j0 k true a l b m c n) true := by
    apply Ev.succ
    simp only [pairinglaw15_MeasureOrders.j0, if_true]
    exact Ev.bind awake_ev (Ev.const rfl)
  have hB : Ev (fun k => pairinglaw15_MeasureOrders.j0 k false a l b m c n) true := by
    have hE : Ev (fun k => pairinglaw15_MeasureOrders.j1 k false a l b m) true := by
      apply Ev.succ
      simp only [pairinglaw15_MeasureOrders.j1, Bool.false_eq_true, if_false]
      exact mo_l0 a b l m hl hm hi l.length 0 (by omega) (by omega)
    apply Ev.succ
    simp only [pairinglaw15_MeasureOrders.j0, Bool.false_eq_true, if_false]
    refine Ev.bind (mcp_ev a l b m) (Ev.bind (mcp_ev b m c n) (Ev.bind (mcp_ev a l c n) (Ev.bind (ref_cp a b l m hl hi) ?_)))
    simp only [if_true]
    refine Ev.bind (mcp_ev b m a l) ?_
    have e1 : cmpP b m a l = wrap64 (-cmpP a l b m) := by
      have h : cmpP b m a l = -cmpP a l b m := cmpP_ord.anti (a, l) (b, m)
      rw [h]
      have := tri a l b m
      exact (IntWalk.wrap64_in _ (by omega)).symm
    simp only [if_pos e1]
    refine Ev.bind (mcp_ev a l a l) ?_
    have e2 : cmpP a l a l = 0 := cmpP_ord.self (a, l)
    simp only [if_pos e2]
    by_cases h1 : cmpP a l b m ≤ 0
    · by_cases h2 : cmpP b m c n ≤ 0
      · have h3 : cmpP a l c n ≤ 0 := cmpP_ord.tr (a, l) (b, m) (c, n) h1 h2
        simp only [if_pos h1, if_pos h2, decide_eq_false (show ¬ cmpP a l c n > 0 by omega)]
        exact hE
      · simp only [if_pos h1, if_neg h2]
        exact hE
    · simp only [if_neg h1]
      exact hE
  have hF : Ev (fun k => pairinglaw15_MeasureOrders.f k a l b m c n) true := by
    obtain ⟨x, hx⟩ := light a l hl
    obtain ⟨y, hy⟩ := light b m hm
    obtain ⟨z, hz⟩ := light c n hn
    unfold pairinglaw15_MeasureOrders.f
    refine Ev.bind hx ?_
    cases x with
    | false => simpa using hA
    | true =>
      simp only [if_true]
      refine Ev.bind hy ?_
      cases y with
      | false => simpa using hA
      | true =>
        simp only [if_true]
        refine Ev.bind hz ?_
        cases z with
        | false => simpa using hA
        | true => simpa using hB
  obtain ⟨K, hK⟩ := hF
  exact ⟨K, hK K (Nat.le_refl K)⟩
end Go.Proofs.YtilnppdognejbaaGreatDoor.P
