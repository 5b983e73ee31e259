/- Walks: each Go function named below, called with what its Lean function answers, returns just that; and the words of the print that they use (wip/xprint.py, wip/shrink.py, wip/prune.py over the kit's print; some by hand). Conditions: those in each theorem. -/
import Derived.Test.YtilnppdognejbaaGreatDoorPl1
import Derived.Test.YtilnppdognejbaaGreatDoorPl2
namespace Go.Proofs.YtilnppdognejbaaGreatDoor.P
open Go.RowKit Go.Proofs.YtilnppdognejbaaGreatDoorW.PrintWords Go.Proofs.YtilnppdognejbaaGreatDoorW.PrintLast Go.Proofs.YtilnppdognejbaaGreatDoorW.PrintMore
attribute [local go_sem] max2_int min2_int max_two min_two max_three min_three max_four min_four   -- for this text's walks alone
set_option linter.unusedVariables false
set_option linter.unusedSimpArgs false
set_option maxHeartbeats 40000000 in
set_option maxRecDepth 100000 in
theorem ends28 (A0_0 : Option Addr) (n0_0 c0_0 : Nat) (A0_1 : Option Addr) (n0_1 c0_1 : Nat) (ad ae : Addr) (c0_2 : Nat) (l0_2 : List S73) (c1 : Nat) (l1 : List S50) (ji : Int) (w : World) (hr0 : Kd.C k73 w (some ae) l0_2.length l0_2) (hr1 : Kd.C k50 w (some ad) l1.length l1) (hji : IntKind.i64.wrap ((l1.length : Int) - 1) = ji)
  (hl : 1 ≤ l1.length) (j0 : 0 ≤ ji) (j1 : ji < (l1.length : Int)) (f0 : 0 ≤ (rd_T50 l1 0).f0) (f1 : (rd_T50 l1 0).f0 < (l0_2.length : Int)) (g0 : 0 ≤ (rd_T50 l1 ji).f0) (g1 : (rd_T50 l1 ji).f0 < (l0_2.length : Int)) :
  Calls Tryz.prog 28 #[.agg #[.slice A0_0 n0_0 c0_0, .slice A0_1 n0_1 c0_1, .slice (some ae) l0_2.length c0_2], .slice (some ad) l1.length c1] w fun e w' => e = .returned (.tuple #[.agg #[.string (rd_T73 l0_2 (rd_T50 l1 0).f0).f0, .string (rd_T73 l0_2 (rd_T50 l1 0).f0).f1, .string (rd_T73 l0_2 (rd_T50 l1 0).f0).f2, .int .i64 (rd_T73 l0_2 (rd_T50 l1 0).f0).f3, .int .i64 (rd_T73 l0_2 (rd_T50 l1 0).f0).f4, .string (rd_T73 l0_2 (rd_T50 l1 0).f0).f5, .int .i64 (rd_T73 l0_2 (rd_T50 l1 0).f0).f6.f0, .int .i64 (rd_T73 l0_2 (rd_T50 l1 0).f0).f6.f1, .int .i64 (rd_T73 l0_2 (rd_T50 l1 0).f0).f6.f2], .agg #[.string (rd_T73 l0_2 (rd_T50 l1 ji).f0).f0, .string (rd_T73 l0_2 (rd_T50 l1 ji).f0).f1, .string (rd_T73 l0_2 (rd_T50 l1 ji).f0).f2, .int .i64 (rd_T73 l0_2 (rd_T50 l1 ji).f0).f3, .int .i64 (rd_T73 l0_2 (rd_T50 l1 ji).f0).f4, .string (rd_T73 l0_2 (rd_T50 l1 ji).f0).f5, .int .i64 (rd_T73 l0_2 (rd_T50 l1 ji).f0).f6.f0, .int .i64 (rd_T73 l0_2 (rd_T50 l1 ji).f0).f6.f1, .int .i64 (rd_T73 l0_2 (rd_T50 l1 ji).f0).f6.f2]]) ∧ Below w.heap.size w w' := by
 have hu1 := Tryz.underlying32
 have hu2 := Tryz.underlying73
 have hu3 := Tryz.underlying50
 have HB := Aside0.mk (Below.refl w.heap.size w)
 obtain ⟨b, e, hc0, hc1⟩ := at_T50 hr1 0 (by omega) (by omega)
 obtain rfl := Option.some.inj e
 obtain ⟨b, e, hd0, hd1⟩ := at_T50 hr1 ji j0 j1
 obtain rfl := Option.some.inj e
 obtain ⟨b, e, ha0, ha1, ha2, ha3, ha4, ha5, ha6, ha7, ha8⟩ := at_T73 hr0 (rd_T50 l1 0).f0 f0 f1
 obtain rfl := Option.some.inj e
 obtain ⟨b, e, hb0, hb1, hb2, hb3, hb4, hb5, hb6, hb7, hb8⟩ := at_T73 hr0 (rd_T50 l1 ji).f0 g0 g1
 obtain rfl := Option.some.inj e
 simp only [Int.toNat_zero, Nat.zero_mul, Addr.add_zero'] at hc0
 have B : Below w.heap.size w (((w.alloc (.cells #[.slice A0_0 n0_0 c0_0, .slice A0_1 n0_1 c0_1, .slice (some ae) l0_2.length c0_2] 32)).alloc (.cells #[.string ⟨#[]⟩, .string ⟨#[]⟩, .string ⟨#[]⟩, .int .i64 0, .int .i64 0, .string ⟨#[]⟩, .int .i64 0, .int .i64 0, .int .i64 0] 73)).alloc (.cells #[.string ⟨#[]⟩, .string ⟨#[]⟩, .string ⟨#[]⟩, .int .i64 0, .int .i64 0, .string ⟨#[]⟩, .int .i64 0, .int .i64 0, .int .i64 0] 73)) := below_alloc (below_alloc (below_alloc (Below.refl _ _) _) _) _
 have := World.new_ne w _ hc0
 have := World.new_ne w _ hd0
 have := World.new_ne w _ ha0
 have := World.new_ne w _ ha1
 have := World.new_ne w _ ha2
 have := World.new_ne w _ ha3
 have := World.new_ne w _ ha4
 have := World.new_ne w _ ha5
 have := World.new_ne w _ ha6
 have := World.new_ne w _ ha7
 have := World.new_ne w _ ha8
 have := World.new_ne w _ hb0
 have := World.new_ne w _ hb1
 have := World.new_ne w _ hb2
 have := World.new_ne w _ hb3
 have := World.new_ne w _ hb4
 have := World.new_ne w _ hb5
 have := World.new_ne w _ hb6
 have := World.new_ne w _ hb7
 have := World.new_ne w _ hb8
 have hl0 : (0 : Int) < (l1.length : Int) := by omega
 have hl00 : 0 < l1.length := by omega
 replace hl := eq_true hl
 replace j0 := eq_true j0
 replace j1 := eq_true j1
 replace f0 := eq_true f0
 replace f1 := eq_true f1
 replace g0 := eq_true g0
 replace g1 := eq_true g1
 clear hr0 hr1 hc1 hd1 B
 go_enter Tryz.func28, Tryz.ntmps28
 go_upto_region 1 with (fail)
 go_region_held3 (fun w' => w'.cell? ⟨w.heap.size, 2, none⟩ = some (.slice (some ae) l0_2.length c0_2) ∧ w'.cell? ad = some (.int .i64 (rd_T50 l1 0).f0) ∧ w'.cell? (ad.add (ji.toNat * 2)) = some (.int .i64 (rd_T50 l1 ji).f0) ∧ w'.cell? (ae.add ((rd_T50 l1 0).f0.toNat * 9)) = some (.string (rd_T73 l0_2 (rd_T50 l1 0).f0).f0) ∧ w'.cell? ⟨(ae.add ((rd_T50 l1 0).f0.toNat * 9)).block, (ae.add ((rd_T50 l1 0).f0.toNat * 9)).off + 1, none⟩ = some (.string (rd_T73 l0_2 (rd_T50 l1 0).f0).f1) ∧ w'.cell? ⟨(ae.add ((rd_T50 l1 0).f0.toNat * 9)).block, (ae.add ((rd_T50 l1 0).f0.toNat * 9)).off + 2, none⟩ = some (.string (rd_T73 l0_2 (rd_T50 l1 0).f0).f2) ∧ w'.cell? ⟨(ae.add ((rd_T50 l1 0).f0.toNat * 9)).block, (ae.add ((rd_T50 l1 0).f0.toNat * 9)).off + 3, none⟩ = some (.int .i64 (rd_T73 l0_2 (rd_T50 l1 0).f0).f3) ∧ w'.cell? ⟨(ae.add ((rd_T50 l1 0).f0.toNat * 9)).block, (ae.add ((rd_T50 l1 0).f0.toNat * 9)).off + 4, none⟩ = some (.int .i64 (rd_T73 l0_2 (rd_T50 l1 0).f0).f4) ∧ w'.cell? ⟨(ae.add ((rd_T50 l1 0).f0.toNat * 9)).block, (ae.add ((rd_T50 l1 0).f0.toNat * 9)).off + 5, none⟩ = some (.string (rd_T73 l0_2 (rd_T50 l1 0).f0).f5) ∧ w'.cell? ⟨(ae.add ((rd_T50 l1 0).f0.toNat * 9)).block, (ae.add ((rd_T50 l1 0).f0.toNat * 9)).off + 6, none⟩ = some (.int .i64 (rd_T73 l0_2 (rd_T50 l1 0).f0).f6.f0) ∧ w'.cell? ⟨(ae.add ((rd_T50 l1 0).f0.toNat * 9)).block, (ae.add ((rd_T50 l1 0).f0.toNat * 9)).off + 7, none⟩ = some (.int .i64 (rd_T73 l0_2 (rd_T50 l1 0).f0).f6.f1) ∧ w'.cell? ⟨(ae.add ((rd_T50 l1 0).f0.toNat * 9)).block, (ae.add ((rd_T50 l1 0).f0.toNat * 9)).off + 8, none⟩ = some (.int .i64 (rd_T73 l0_2 (rd_T50 l1 0).f0).f6.f2) ∧ w'.cell? (ae.add ((rd_T50 l1 ji).f0.toNat * 9)) = some (.string (rd_T73 l0_2 (rd_T50 l1 ji).f0).f0) ∧ w'.cell? ⟨(ae.add ((rd_T50 l1 ji).f0.toNat * 9)).block, (ae.add ((rd_T50 l1 ji).f0.toNat * 9)).off + 1, none⟩ = some (.string (rd_T73 l0_2 (rd_T50 l1 ji).f0).f1) ∧ w'.cell? ⟨(ae.add ((rd_T50 l1 ji).f0.toNat * 9)).block, (ae.add ((rd_T50 l1 ji).f0.toNat * 9)).off + 2, none⟩ = some (.string (rd_T73 l0_2 (rd_T50 l1 ji).f0).f2) ∧ w'.cell? ⟨(ae.add ((rd_T50 l1 ji).f0.toNat * 9)).block, (ae.add ((rd_T50 l1 ji).f0.toNat * 9)).off + 3, none⟩ = some (.int .i64 (rd_T73 l0_2 (rd_T50 l1 ji).f0).f3) ∧ w'.cell? ⟨(ae.add ((rd_T50 l1 ji).f0.toNat * 9)).block, (ae.add ((rd_T50 l1 ji).f0.toNat * 9)).off + 4, none⟩ = some (.int .i64 (rd_T73 l0_2 (rd_T50 l1 ji).f0).f4) ∧ w'.cell? ⟨(ae.add ((rd_T50 l1 ji).f0.toNat * 9)).block, (ae.add ((rd_T50 l1 ji).f0.toNat * 9)).off + 5, none⟩ = some (.string (rd_T73 l0_2 (rd_T50 l1 ji).f0).f5) ∧ w'.cell? ⟨(ae.add ((rd_T50 l1 ji).f0.toNat * 9)).block, (ae.add ((rd_T50 l1 ji).f0.toNat * 9)).off + 6, none⟩ = some (.int .i64 (rd_T73 l0_2 (rd_T50 l1 ji).f0).f6.f0) ∧ w'.cell? ⟨(ae.add ((rd_T50 l1 ji).f0.toNat * 9)).block, (ae.add ((rd_T50 l1 ji).f0.toNat * 9)).off + 7, none⟩ = some (.int .i64 (rd_T73 l0_2 (rd_T50 l1 ji).f0).f6.f1) ∧ w'.cell? ⟨(ae.add ((rd_T50 l1 ji).f0.toNat * 9)).block, (ae.add ((rd_T50 l1 ji).f0.toNat * 9)).off + 8, none⟩ = some (.int .i64 (rd_T73 l0_2 (rd_T50 l1 ji).f0).f6.f2)) (simp (maxDischargeDepth := 8) [*, World.cell?_alloc_some, World.cell?_setCell_far, World.cell?_alloc_past]) (fail)
 clear hc0 hd0 ha0 ha1 ha2 ha3 ha4 ha5 ha6 ha7 ha8 hb0 hb1 hb2 hb3 hb4 hb5 hb6 hb7 hb8
 go_wp2_with fail
 refine bodyPost_ret (results_cc rfl _ _ (w.heap.size + 1) (w.heap.size + 1 + 1) 73 73 #[.string (rd_T73 l0_2 (rd_T50 l1 0).f0).f0, .string (rd_T73 l0_2 (rd_T50 l1 0).f0).f1, .string (rd_T73 l0_2 (rd_T50 l1 0).f0).f2, .int .i64 (rd_T73 l0_2 (rd_T50 l1 0).f0).f3, .int .i64 (rd_T73 l0_2 (rd_T50 l1 0).f0).f4, .string (rd_T73 l0_2 (rd_T50 l1 0).f0).f5, .int .i64 (rd_T73 l0_2 (rd_T50 l1 0).f0).f6.f0, .int .i64 (rd_T73 l0_2 (rd_T50 l1 0).f0).f6.f1, .int .i64 (rd_T73 l0_2 (rd_T50 l1 0).f0).f6.f2] #[.string (rd_T73 l0_2 (rd_T50 l1 ji).f0).f0, .string (rd_T73 l0_2 (rd_T50 l1 ji).f0).f1, .string (rd_T73 l0_2 (rd_T50 l1 ji).f0).f2, .int .i64 (rd_T73 l0_2 (rd_T50 l1 ji).f0).f3, .int .i64 (rd_T73 l0_2 (rd_T50 l1 ji).f0).f4, .string (rd_T73 l0_2 (rd_T50 l1 ji).f0).f5, .int .i64 (rd_T73 l0_2 (rd_T50 l1 ji).f0).f6.f0, .int .i64 (rd_T73 l0_2 (rd_T50 l1 ji).f0).f6.f1, .int .i64 (rd_T73 l0_2 (rd_T50 l1 ji).f0).f6.f2] (0, 0) (0, 0) _ _ rfl ?g1 Tryz.underlying73 rfl (by kernel_rfl) rfl ?g2 Tryz.underlying73 rfl (by kernel_rfl)) rfl ?_
 case g1 => exact blk_drew (blk_alloc (by simpa using heap_alloc_new (w.alloc (.cells #[.slice A0_0 n0_0 c0_0, .slice A0_1 n0_1 c0_1, .slice (some ae) l0_2.length c0_2] 32)) (.cells #[.string (rd_T73 l0_2 (rd_T50 l1 0).f0).f0, .string (rd_T73 l0_2 (rd_T50 l1 0).f0).f1, .string (rd_T73 l0_2 (rd_T50 l1 0).f0).f2, .int .i64 (rd_T73 l0_2 (rd_T50 l1 0).f0).f3, .int .i64 (rd_T73 l0_2 (rd_T50 l1 0).f0).f4, .string (rd_T73 l0_2 (rd_T50 l1 0).f0).f5, .int .i64 (rd_T73 l0_2 (rd_T50 l1 0).f0).f6.f0, .int .i64 (rd_T73 l0_2 (rd_T50 l1 0).f0).f6.f1, .int .i64 (rd_T73 l0_2 (rd_T50 l1 0).f0).f6.f2] 73)) _)
 case g2 => exact blk_drew (by simpa using heap_alloc_new ((w.alloc (.cells #[.slice A0_0 n0_0 c0_0, .slice A0_1 n0_1 c0_1, .slice (some ae) l0_2.length c0_2] 32)).alloc (.cells #[.string (rd_T73 l0_2 (rd_T50 l1 0).f0).f0, .string (rd_T73 l0_2 (rd_T50 l1 0).f0).f1, .string (rd_T73 l0_2 (rd_T50 l1 0).f0).f2, .int .i64 (rd_T73 l0_2 (rd_T50 l1 0).f0).f3, .int .i64 (rd_T73 l0_2 (rd_T50 l1 0).f0).f4, .string (rd_T73 l0_2 (rd_T50 l1 0).f0).f5, .int .i64 (rd_T73 l0_2 (rd_T50 l1 0).f0).f6.f0, .int .i64 (rd_T73 l0_2 (rd_T50 l1 0).f0).f6.f1, .int .i64 (rd_T73 l0_2 (rd_T50 l1 0).f0).f6.f2] 73)) (.cells #[.string (rd_T73 l0_2 (rd_T50 l1 ji).f0).f0, .string (rd_T73 l0_2 (rd_T50 l1 ji).f0).f1, .string (rd_T73 l0_2 (rd_T50 l1 ji).f0).f2, .int .i64 (rd_T73 l0_2 (rd_T50 l1 ji).f0).f3, .int .i64 (rd_T73 l0_2 (rd_T50 l1 ji).f0).f4, .string (rd_T73 l0_2 (rd_T50 l1 ji).f0).f5, .int .i64 (rd_T73 l0_2 (rd_T50 l1 ji).f0).f6.f0, .int .i64 (rd_T73 l0_2 (rd_T50 l1 ji).f0).f6.f1, .int .i64 (rd_T73 l0_2 (rd_T50 l1 ji).f0).f6.f2] 73))
 exact ⟨rfl, by repeat (first | exact HB.out | apply below_alloc | apply pw_below_drewN | apply below_drew1)⟩
def endsF (l0_2 : List S73) (l1 : List S50) (ji : Int) : Option (ByteArray × ByteArray × ByteArray × Int × Int × ByteArray × Int × Int × Int × ByteArray × ByteArray × ByteArray × Int × Int × ByteArray × Int × Int × Int) := if 1 ≤ l1.length then if 0 ≤ ji then if ji < (l1.length : Int) then if 0 ≤ (rd_T50 l1 0).f0 then if (rd_T50 l1 0).f0 < (l0_2.length : Int) then if 0 ≤ (rd_T50 l1 ji).f0 then if (rd_T50 l1 ji).f0 < (l0_2.length : Int) then some ((rd_T73 l0_2 (rd_T50 l1 0).f0).f0, (rd_T73 l0_2 (rd_T50 l1 0).f0).f1, (rd_T73 l0_2 (rd_T50 l1 0).f0).f2, (rd_T73 l0_2 (rd_T50 l1 0).f0).f3, (rd_T73 l0_2 (rd_T50 l1 0).f0).f4, (rd_T73 l0_2 (rd_T50 l1 0).f0).f5, (rd_T73 l0_2 (rd_T50 l1 0).f0).f6.f0, (rd_T73 l0_2 (rd_T50 l1 0).f0).f6.f1, (rd_T73 l0_2 (rd_T50 l1 0).f0).f6.f2, (rd_T73 l0_2 (rd_T50 l1 ji).f0).f0, (rd_T73 l0_2 (rd_T50 l1 ji).f0).f1, (rd_T73 l0_2 (rd_T50 l1 ji).f0).f2, (rd_T73 l0_2 (rd_T50 l1 ji).f0).f3, (rd_T73 l0_2 (rd_T50 l1 ji).f0).f4, (rd_T73 l0_2 (rd_T50 l1 ji).f0).f5, (rd_T73 l0_2 (rd_T50 l1 ji).f0).f6.f0, (rd_T73 l0_2 (rd_T50 l1 ji).f0).f6.f1, (rd_T73 l0_2 (rd_T50 l1 ji).f0).f6.f2) else none else none else none else none else none else none else none
def measure_ends.f (l0_0 : List (S83)) (l0_1 : List (S86)) (l0_2 : List (S73)) (l1 : List (S50)) : Option (ByteArray × ByteArray × ByteArray × Int × Int × ByteArray × Int × Int × Int × ByteArray × ByteArray × ByteArray × Int × Int × ByteArray × Int × Int × Int) := endsF l0_2 l1 (wrap64 ((l1.length : Int) - 1))
theorem measure_ends.calls (A0_0 : Option Addr) (c0_0 : Nat) (l0_0 : List (S83)) (A0_1 : Option Addr) (c0_1 : Nat) (l0_1 : List (S86)) (A0_2 : Option Addr) (c0_2 : Nat) (l0_2 : List (S73)) (A1 : Option Addr) (c1 : Nat) (l1 : List (S50)) (r1 : ByteArray) (r2 : ByteArray) (r3 : ByteArray) (r4 : Int) (r5 : Int) (r6 : ByteArray) (r7 : Int) (r8 : Int) (r9 : Int) (r10 : ByteArray) (r11 : ByteArray) (r12 : ByteArray) (r13 : Int) (r14 : Int) (r15 : ByteArray) (r16 : Int) (r17 : Int) (r18 : Int) (w : World) (hr0_0 : Kd.C k83 w A0_0 l0_0.length l0_0) (hc0_0 : l0_0.length ≤ c0_0) (hr0_1 : Kd.C k86 w A0_1 l0_1.length l0_1) (hc0_1 : l0_1.length ≤ c0_1) (hr0_2 : Kd.C k73 w A0_2 l0_2.length l0_2) (hc0_2 : l0_2.length ≤ c0_2) (hr1 : Kd.C k50 w A1 l1.length l1) (hc1 : l1.length ≤ c1) (h : measure_ends.f l0_0 l0_1 l0_2 l1 = some (r1, r2, r3, r4, r5, r6, r7, r8, r9, r10, r11, r12, r13, r14, r15, r16, r17, r18)) :
  Calls Tryz.prog 28 #[.agg #[.slice A0_0 l0_0.length c0_0, .slice A0_1 l0_1.length c0_1, .slice A0_2 l0_2.length c0_2], .slice A1 l1.length c1] w fun e w' => e = .returned (.tuple #[.agg #[.string r1, .string r2, .string r3, .int .i64 r4, .int .i64 r5, .string r6, .int .i64 r7, .int .i64 r8, .int .i64 r9], .agg #[.string r10, .string r11, .string r12, .int .i64 r13, .int .i64 r14, .string r15, .int .i64 r16, .int .i64 r17, .int .i64 r18]]) ∧ Below w.heap.size w w' := by
 unfold measure_ends.f at h
 obtain ⟨ji, hj⟩ : ∃ j : Int, wrap64 ((l1.length : Int) - 1) = j := ⟨_, rfl⟩
 rw [hj] at h
 have hjw : IntKind.i64.wrap ((l1.length : Int) - 1) = ji := (i64_w _).trans hj
 unfold endsF at h
 by_cases q0 : 1 ≤ l1.length
 case neg => rw [if_neg q0] at h; cases h
 rw [if_pos q0] at h
 by_cases q1 : 0 ≤ ji
 case neg => rw [if_neg q1] at h; cases h
 rw [if_pos q1] at h
 by_cases q2 : ji < (l1.length : Int)
 case neg => rw [if_neg q2] at h; cases h
 rw [if_pos q2] at h
 by_cases q3 : 0 ≤ (rd_T50 l1 0).f0
 case neg => rw [if_neg q3] at h; cases h
 rw [if_pos q3] at h
 by_cases q4 : (rd_T50 l1 0).f0 < (l0_2.length : Int)
 case neg => rw [if_neg q4] at h; cases h
 rw [if_pos q4] at h
 by_cases q5 : 0 ≤ (rd_T50 l1 ji).f0
 case neg => rw [if_neg q5] at h; cases h
 rw [if_pos q5] at h
 by_cases q6 : (rd_T50 l1 ji).f0 < (l0_2.length : Int)
 case neg => rw [if_neg q6] at h; cases h
 rw [if_pos q6] at h
 simp only [Option.some.injEq, Prod.mk.injEq] at h
 obtain ⟨rfl, rfl, rfl, rfl, rfl, rfl, rfl, rfl, rfl, rfl, rfl, rfl, rfl, rfl, rfl, rfl, rfl, rfl⟩ := h
 obtain ⟨ad, ea, -⟩ := at_T50 hr1 0 (by omega) (by omega)
 obtain ⟨ae, eb, -⟩ := at_T73 hr0_2 _ q3 q4
 subst ea
 subst eb
 exact ends28 _ _ _ _ _ _ _ _ _ _ _ _ _ _ hr0_2 hr1 hjw q0 q1 q2 q3 q4 q5 q6
end Go.Proofs.YtilnppdognejbaaGreatDoor.P
namespace Go.Proofs.YtilnppdognejbaaGreatDoor.P
open Go.RowKit Go.Proofs.YtilnppdognejbaaGreatDoorW.PrintWords Go.Proofs.YtilnppdognejbaaGreatDoorW.PrintLast Go.Proofs.YtilnppdognejbaaGreatDoorW.PrintMore
attribute [local go_sem] max2_int min2_int max_two min_two max_three min_three max_four min_four   -- for this text's walks alone
set_option linter.unusedVariables false
set_option linter.unusedSimpArgs false
def measure_span.f (l0_0 : List (S83)) (l0_1 : List (S86)) (l0_2 : List (S73)) (a1_0 : Int) (a1_1 : Int) (a1_2 : Int) (a1_3 : Int) (a1_4 : Int) (a1_5 : Int) (a1_6 : Int) (l1_7 : List (S105)) (l1_8 : List (S107)) (l1_9 : List (S109)) (l1_10 : List (S103)) (l1_11 : List (S154)) (l1_12 : List (S161)) (a1_13 : Int) (l2 : List (S50)) : Option (Int × Int) := (measure_ends.f l0_0 l0_1 l0_2 l2).bind fun bt186 => (some (wrap64 (bt186.2.2.2.1 - a1_0), wrap64 (bt186.2.2.2.2.2.2.2.2.2.2.2.2.2.1 + a1_1)))
set_option maxHeartbeats 8000000 in
set_option maxRecDepth 100000 in
theorem measure_span.calls (A0_0 : Option Addr) (c0_0 : Nat) (l0_0 : List (S83)) (A0_1 : Option Addr) (c0_1 : Nat) (l0_1 : List (S86)) (A0_2 : Option Addr) (c0_2 : Nat) (l0_2 : List (S73)) (a1_0 : Int) (a1_1 : Int) (a1_2 : Int) (a1_3 : Int) (a1_4 : Int) (a1_5 : Int) (a1_6 : Int) (A1_7 : Option Addr) (c1_7 : Nat) (l1_7 : List (S105)) (A1_8 : Option Addr) (c1_8 : Nat) (l1_8 : List (S107)) (A1_9 : Option Addr) (c1_9 : Nat) (l1_9 : List (S109)) (A1_10 : Option Addr) (c1_10 : Nat) (l1_10 : List (S103)) (A1_11 : Option Addr) (c1_11 : Nat) (l1_11 : List (S154)) (A1_12 : Option Addr) (c1_12 : Nat) (l1_12 : List (S161)) (a1_13 : Int) (A2 : Option Addr) (c2 : Nat) (l2 : List (S50)) (r1 : Int) (r2 : Int) (w : World) (hr0_0 : Kd.C k83 w A0_0 l0_0.length l0_0) (hc0_0 : l0_0.length ≤ c0_0) (hr0_1 : Kd.C k86 w A0_1 l0_1.length l0_1) (hc0_1 : l0_1.length ≤ c0_1) (hr0_2 : Kd.C k73 w A0_2 l0_2.length l0_2) (hc0_2 : l0_2.length ≤ c0_2) (hr1_7 : Kd.C k105 w A1_7 l1_7.length l1_7) (hc1_7 : l1_7.length ≤ c1_7) (hr1_8 : Kd.C k107 w A1_8 l1_8.length l1_8) (hc1_8 : l1_8.length ≤ c1_8) (hr1_9 : Kd.C k109 w A1_9 l1_9.length l1_9) (hc1_9 : l1_9.length ≤ c1_9) (hr1_10 : Kd.C k103 w A1_10 l1_10.length l1_10) (hc1_10 : l1_10.length ≤ c1_10) (hr1_11 : Kd.C k154 w A1_11 l1_11.length l1_11) (hc1_11 : l1_11.length ≤ c1_11) (hr1_12 : Kd.C k161 w A1_12 l1_12.length l1_12) (hc1_12 : l1_12.length ≤ c1_12) (hr2 : Kd.C k50 w A2 l2.length l2) (hc2 : l2.length ≤ c2) (h : measure_span.f l0_0 l0_1 l0_2 a1_0 a1_1 a1_2 a1_3 a1_4 a1_5 a1_6 l1_7 l1_8 l1_9 l1_10 l1_11 l1_12 a1_13 l2 = some (r1, r2)) :
  Calls Tryz.prog 55 #[.agg #[.slice A0_0 l0_0.length c0_0, .slice A0_1 l0_1.length c0_1, .slice A0_2 l0_2.length c0_2], .agg #[.int .i64 a1_0, .int .i64 a1_1, .int .i64 a1_2, .int .i64 a1_3, .int .i64 a1_4, .int .i64 a1_5, .int .i64 a1_6, .slice A1_7 l1_7.length c1_7, .slice A1_8 l1_8.length c1_8, .slice A1_9 l1_9.length c1_9, .slice A1_10 l1_10.length c1_10, .slice A1_11 l1_11.length c1_11, .slice A1_12 l1_12.length c1_12, .int .i64 a1_13], .slice A2 l2.length c2] w fun e w' => e = .returned (.agg #[.int .i64 r1, .int .i64 r2]) ∧ Below w.heap.size w w' := by
 have hu32 := Tryz.underlying32
 have hu40 := Tryz.underlying40
 have hu114 := Tryz.underlying114
 have hu73 := Tryz.underlying73
 have HR0_0 := Aside0.mk hr0_0
 have HC0_0 := Aside0.mk hc0_0
 clear hr0_0 hc0_0
 have HR0_1 := Aside0.mk hr0_1
 have HC0_1 := Aside0.mk hc0_1
 clear hr0_1 hc0_1
 have HR0_2 := Aside0.mk hr0_2
 have HC0_2 := Aside0.mk hc0_2
 clear hr0_2 hc0_2
 have HR1_7 := Aside0.mk hr1_7
 have HC1_7 := Aside0.mk hc1_7
 clear hr1_7 hc1_7
 have HR1_8 := Aside0.mk hr1_8
 have HC1_8 := Aside0.mk hc1_8
 clear hr1_8 hc1_8
 have HR1_9 := Aside0.mk hr1_9
 have HC1_9 := Aside0.mk hc1_9
 clear hr1_9 hc1_9
 have HR1_10 := Aside0.mk hr1_10
 have HC1_10 := Aside0.mk hc1_10
 clear hr1_10 hc1_10
 have HR1_11 := Aside0.mk hr1_11
 have HC1_11 := Aside0.mk hc1_11
 clear hr1_11 hc1_11
 have HR1_12 := Aside0.mk hr1_12
 have HC1_12 := Aside0.mk hc1_12
 clear hr1_12 hc1_12
 have HR2 := Aside0.mk hr2
 have HC2 := Aside0.mk hc2
 clear hr2 hc2
 have HB := Aside0.mk (Below.refl w.heap.size w)
 have H : ((measure_ends.f l0_0 l0_1 l0_2 l2).bind fun bt186 => (some (wrap64 (bt186.2.2.2.1 - a1_0), wrap64 (bt186.2.2.2.2.2.2.2.2.2.2.2.2.2.1 + a1_1)))) = some (r1, r2) := h
 clear h
 replace H := Option.bind_eq_some_iff.mp H
 obtain ⟨⟨t186, t187, t188, t189, t190, t191, t192, t193, t194, t195, t196, t197, t198, t199, t200, t201, t202, t203⟩, A40, H⟩ := H
 replace H : (some (wrap64 (t189 - a1_0), wrap64 (t199 + a1_1))) = some (r1, r2) := H
 have A4 := Aside0.mk A40
 clear A40
 simp only [Option.some.injEq, Prod.mk.injEq] at H
 obtain ⟨rfl, rfl⟩ := H
 go_enter Tryz.func55, Tryz.ntmps55
 go_wp2_with (first | ((with_reducible refine gate_dst (N := 3) rfl ?_); refine box_event ?hg (N := 3) ?hd (cs := #[.slice A0_0 l0_0.length c0_0, .slice A0_1 l0_1.length c0_1, .slice A0_2 l0_2.length c0_2]) (t := 32) ?hr ?_; (case hd => rfl); (case hg => rfl); (case hr => first | (go_simp; done) | (go_simp; rfl)); intro gb183 hg w5 hbox hb; have BK183 := Aside0.mk hbox; have GE183 := Aside0.mk ((by rw [hg]; exact (below_size hbk) : w.heap.size ≤ gb183)); replace HB := Aside0.mk (below_step hbk hb); clear hb hbox hg) | ((with_reducible refine gate_dst (N := 4) rfl ?_); refine box_event ?hg (N := 4) ?hd (cs := #[.int .i64 a1_0, .int .i64 a1_1, .int .i64 a1_2, .int .i64 a1_3, .int .i64 a1_4, .int .i64 a1_5, .int .i64 a1_6, .slice A1_7 l1_7.length c1_7, .slice A1_8 l1_8.length c1_8, .slice A1_9 l1_9.length c1_9, .slice A1_10 l1_10.length c1_10, .slice A1_11 l1_11.length c1_11, .slice A1_12 l1_12.length c1_12, .int .i64 a1_13]) (t := 40) ?hr ?_; (case hd => rfl); (case hg => rfl); (case hr => first | (go_simp; done) | (go_simp; rfl)); intro gb184 hg w6 hbox hb; have BK184 := Aside0.mk hbox; have GE184 := Aside0.mk ((by rw [hg]; exact (below_size hbk) : w.heap.size ≤ gb184)); have NB183_184 := Aside0.mk ((by rw [hg]; exact Nat.ne_of_lt (blk_ltB BK183.out) : gb183 ≠ gb184)); have NB184_183 := Aside0.mk ((by rw [hg]; exact Nat.ne_of_gt (blk_ltB BK183.out) : gb184 ≠ gb183)); replace BK183 := Aside0.mk (blk_belowB BK183.out hb); replace HB := Aside0.mk (below_step hbk hb); clear hb hbox hg) | ((with_reducible refine gate_dst (N := 6) rfl ?_); refine box_event ?hg (N := 6) ?hd (cs := #[.int .i64 0, .int .i64 0]) (t := 114) ?hr ?_; (case hd => rfl); (case hg => rfl); (case hr => first | (go_simp; done) | (go_simp; rfl)); intro gb185 hg w7 hbox hb; have BK185 := Aside0.mk hbox; have GE185 := Aside0.mk ((by rw [hg]; exact (below_size hbk) : w.heap.size ≤ gb185)); have NB183_185 := Aside0.mk ((by rw [hg]; exact Nat.ne_of_lt (blk_ltB BK183.out) : gb183 ≠ gb185)); have NB185_183 := Aside0.mk ((by rw [hg]; exact Nat.ne_of_gt (blk_ltB BK183.out) : gb185 ≠ gb183)); have NB184_185 := Aside0.mk ((by rw [hg]; exact Nat.ne_of_lt (blk_ltB BK184.out) : gb184 ≠ gb185)); have NB185_184 := Aside0.mk ((by rw [hg]; exact Nat.ne_of_gt (blk_ltB BK184.out) : gb185 ≠ gb184)); replace BK183 := Aside0.mk (blk_belowB BK183.out hb); replace BK184 := Aside0.mk (blk_belowB BK184.out hb); replace HB := Aside0.mk (below_step hbk hb); clear hb hbox hg; have hnb8 := NB183_184.out; have hnc8 := NB184_183.out; have hnb9 := NB183_185.out; have hnc9 := NB185_183.out; obtain ⟨hcz10_0, hcz10_1, hcz10_2⟩ := blk_cs3 BK183.out; obtain ⟨hfz10_0, hfz10_1, hfz10_2⟩ := blk_fs3 BK183.out) | ((with_reducible refine gate_callee (f := 28) rfl ?_); refine goesL_ (some 12) rfl rfl Tryz.func28 (by kernel_rfl) rfl #[.agg #[.slice A0_0 l0_0.length c0_0, .slice A0_1 l0_1.length c0_1, .slice A0_2 l0_2.length c0_2], .slice A2 l2.length c2] rfl hgl ?_; (with_reducible refine (measure_ends.calls _ _ l0_0 _ _ l0_1 _ _ l0_2 _ _ l2 t186 t187 t188 t189 t190 t191 t192 t193 t194 t195 t196 t197 t198 t199 t200 t201 t202 t203 _ ?side1 ?side2 ?side3 ?side4 ?side5 ?side6 ?side7 ?side8 A4.out).mono ?_); (case side1 => exact Kd.C_below HR0_0.out hbk); (case side2 => exact HC0_0.out); (case side3 => exact Kd.C_below HR0_1.out hbk); (case side4 => exact HC0_1.out); (case side5 => exact Kd.C_below HR0_2.out hbk); (case side6 => exact HC0_2.out); (case side7 => exact Kd.C_below HR2.out hbk); (case side8 => exact HC2.out); rintro e w11 ⟨rfl, hb⟩; refine ⟨_, rfl, ?_⟩; have n0_ := Aside0.mk (blk_belowB BK183.out hb); have n1_ := Aside0.mk (blk_belowB BK184.out hb); have n2_ := Aside0.mk (blk_belowB BK185.out hb); have n3_ := Aside0.mk (below_step hbk hb); clear BK183; clear BK184; clear BK185; clear HB; have BK183 := n0_; have BK184 := n1_; have BK185 := n2_; have HB := n3_; clear n0_ n1_ n2_ n3_; (try clear hb); (try clear hb2); (try clear hk); (try clear hi)) | ((with_reducible refine gate_dst (N := 7) rfl ?_); refine box_event ?hg (N := 7) ?hd (cs := #[.string (⟨#[]⟩ : ByteArray), .string (⟨#[]⟩ : ByteArray), .string (⟨#[]⟩ : ByteArray), .int .i64 0, .int .i64 0, .string (⟨#[]⟩ : ByteArray), .int .i64 0, .int .i64 0, .int .i64 0]) (t := 73) ?hr ?_; (case hd => rfl); (case hg => rfl); (case hr => first | (go_simp; done) | (go_simp; rfl)); intro gb204 hg w12 hbox hb; have n0_ := Aside0.mk (blk_belowB BK183.out hb); have n1_ := Aside0.mk (blk_belowB BK184.out hb); have n2_ := Aside0.mk (blk_belowB BK185.out hb); have n3_ := Aside0.mk (below_step hbk hb); have n4_ := Aside0.mk hbox; have n5_ := Aside0.mk ((by rw [hg]; exact (below_size hbk) : w.heap.size ≤ gb204)); have n6_ := Aside0.mk ((by rw [hg]; exact (below_size hbk) : w.heap.size ≤ gb204)); have n7_ := Aside0.mk ((by rw [hg]; exact Nat.ne_of_lt (blk_ltB BK183.out) : gb183 ≠ gb204)); have n8_ := Aside0.mk ((by rw [hg]; exact Nat.ne_of_gt (blk_ltB BK183.out) : gb204 ≠ gb183)); have n9_ := Aside0.mk ((by rw [hg]; exact Nat.ne_of_lt (blk_ltB BK184.out) : gb184 ≠ gb204)); have n10_ := Aside0.mk ((by rw [hg]; exact Nat.ne_of_gt (blk_ltB BK184.out) : gb204 ≠ gb184)); have n11_ := Aside0.mk ((by rw [hg]; exact Nat.ne_of_lt (blk_ltB BK185.out) : gb185 ≠ gb204)); have n12_ := Aside0.mk ((by rw [hg]; exact Nat.ne_of_gt (blk_ltB BK185.out) : gb204 ≠ gb185)); clear BK183; clear BK184; clear BK185; clear HB; have BK183 := n0_; have BK184 := n1_; have BK185 := n2_; have HB := n3_; have BK204 := n4_; have GW204 := n5_; have GE204 := n6_; have NB183_204 := n7_; have NB204_183 := n8_; have NB184_204 := n9_; have NB204_184 := n10_; have NB185_204 := n11_; have NB204_185 := n12_; clear n0_ n1_ n2_ n3_ n4_ n5_ n6_ n7_ n8_ n9_ n10_ n11_ n12_; clear hb hbox hg) | ((with_reducible refine gate_dst (N := 8) rfl ?_); refine box_event ?hg (N := 8) ?hd (cs := #[.string (⟨#[]⟩ : ByteArray), .string (⟨#[]⟩ : ByteArray), .string (⟨#[]⟩ : ByteArray), .int .i64 0, .int .i64 0, .string (⟨#[]⟩ : ByteArray), .int .i64 0, .int .i64 0, .int .i64 0]) (t := 73) ?hr ?_; (case hd => rfl); (case hg => rfl); (case hr => first | (go_simp; done) | (go_simp; rfl)); intro gb205 hg w13 hbox hb; have n0_ := Aside0.mk (blk_belowB BK183.out hb); have n1_ := Aside0.mk (blk_belowB BK184.out hb); have n2_ := Aside0.mk (blk_belowB BK185.out hb); have n3_ := Aside0.mk (blk_belowB BK204.out hb); have n4_ := Aside0.mk (below_step hbk hb); have n5_ := Aside0.mk hbox; have n6_ := Aside0.mk ((by rw [hg]; exact (below_size hbk) : w.heap.size ≤ gb205)); have n7_ := Aside0.mk ((by rw [hg]; exact (below_size hbk) : w.heap.size ≤ gb205)); have n8_ := Aside0.mk ((by rw [hg]; exact Nat.ne_of_lt (blk_ltB BK183.out) : gb183 ≠ gb205)); have n9_ := Aside0.mk ((by rw [hg]; exact Nat.ne_of_gt (blk_ltB BK183.out) : gb205 ≠ gb183)); have n10_ := Aside0.mk ((by rw [hg]; exact Nat.ne_of_lt (blk_ltB BK184.out) : gb184 ≠ gb205)); have n11_ := Aside0.mk ((by rw [hg]; exact Nat.ne_of_gt (blk_ltB BK184.out) : gb205 ≠ gb184)); have n12_ := Aside0.mk ((by rw [hg]; exact Nat.ne_of_lt (blk_ltB BK185.out) : gb185 ≠ gb205)); have n13_ := Aside0.mk ((by rw [hg]; exact Nat.ne_of_gt (blk_ltB BK185.out) : gb205 ≠ gb185)); have n14_ := Aside0.mk ((by rw [hg]; exact Nat.ne_of_lt (blk_ltB BK204.out) : gb204 ≠ gb205)); have n15_ := Aside0.mk ((by rw [hg]; exact Nat.ne_of_gt (blk_ltB BK204.out) : gb205 ≠ gb204)); clear BK183; clear BK184; clear BK185; clear BK204; clear HB; have BK183 := n0_; have BK184 := n1_; have BK185 := n2_; have BK204 := n3_; have HB := n4_; have BK205 := n5_; have GW205 := n6_; have GE205 := n7_; have NB183_205 := n8_; have NB205_183 := n9_; have NB184_205 := n10_; have NB205_184 := n11_; have NB185_205 := n12_; have NB205_185 := n13_; have NB204_205 := n14_; have NB205_204 := n15_; clear n0_ n1_ n2_ n3_ n4_ n5_ n6_ n7_ n8_ n9_ n10_ n11_ n12_ n13_ n14_ n15_; clear hb hbox hg; have hnb14 := NB204_183.out; have hnc14 := NB183_204.out; have hnb15 := NB204_184.out; have hnc15 := NB184_204.out; have hnb16 := NB204_185.out; have hnc16 := NB185_204.out; have hnb17 := NB204_205.out; have hnc17 := NB205_204.out; obtain ⟨hcz18_0, hcz18_1, hcz18_2, hcz18_3, hcz18_4, hcz18_5, hcz18_6, hcz18_7, hcz18_8⟩ := blk_cs9 BK204.out; obtain ⟨hfz18_0, hfz18_1, hfz18_2, hfz18_3, hfz18_4, hfz18_5, hfz18_6, hfz18_7, hfz18_8⟩ := blk_fs9 BK204.out; have hnb19 := NB205_183.out; have hnc19 := NB183_205.out; have hnb20 := NB205_184.out; have hnc20 := NB184_205.out; have hnb21 := NB205_185.out; have hnc21 := NB185_205.out; obtain ⟨hcz22_0, hcz22_1, hcz22_2, hcz22_3, hcz22_4, hcz22_5, hcz22_6, hcz22_7, hcz22_8⟩ := blk_cs9 BK205.out; obtain ⟨hfz22_0, hfz22_1, hfz22_2, hfz22_3, hfz22_4, hfz22_5, hfz22_6, hfz22_7, hfz22_8⟩ := blk_fs9 BK205.out; have hnb23 := NB184_185.out; have hnc23 := NB185_184.out; obtain ⟨hcz24_0, hcz24_1, hcz24_2, hcz24_3, hcz24_4, hcz24_5, hcz24_6, hcz24_7, hcz24_8, hcz24_9, hcz24_10, hcz24_11, hcz24_12, hcz24_13⟩ := blk_cs14 BK184.out; obtain ⟨hfz24_0, hfz24_1, hfz24_2, hfz24_3, hfz24_4, hfz24_5, hfz24_6, hfz24_7, hfz24_8, hfz24_9, hfz24_10, hfz24_11, hfz24_12, hfz24_13⟩ := blk_fs14 BK184.out; obtain ⟨hcz25_0, hcz25_1⟩ := blk_cs2 BK185.out; obtain ⟨hfz25_0, hfz25_1⟩ := blk_fs2 BK185.out))
 refine bodyPost_ret (results_cell_row rfl _ _ gb185 114 #[.int .i64 (wrap64 (t189 - a1_0)), .int .i64 (wrap64 (t199 + a1_1))] (0, 0) _ rfl (by (with_reducible repeat (first | refine blk_drewN ?_ _ | refine blk_drew ?_ | refine blk_alloc ?_ _)); refine blk_put (cs := #[.int .i64 (wrap64 (t189 - a1_0)), .int .i64 0]) ?_ 1 _ rfl; refine blk_put (cs := #[.int .i64 0, .int .i64 0]) ?_ 0 _ rfl; refine blk_far ?_ NB185_205.out _; refine blk_far ?_ NB185_205.out _; refine blk_far ?_ NB185_205.out _; refine blk_far ?_ NB185_205.out _; refine blk_far ?_ NB185_205.out _; refine blk_far ?_ NB185_205.out _; refine blk_far ?_ NB185_205.out _; refine blk_far ?_ NB185_205.out _; refine blk_far ?_ NB185_205.out _; refine blk_far ?_ NB185_204.out _; refine blk_far ?_ NB185_204.out _; refine blk_far ?_ NB185_204.out _; refine blk_far ?_ NB185_204.out _; refine blk_far ?_ NB185_204.out _; refine blk_far ?_ NB185_204.out _; refine blk_far ?_ NB185_204.out _; refine blk_far ?_ NB185_204.out _; refine blk_far ?_ NB185_204.out _; (with_reducible repeat (first | refine blk_drewN ?_ _ | refine blk_drew ?_ | refine blk_alloc ?_ _)); exact BK185.out) Tryz.underlying114 rfl (by kernel_rfl)) rfl ?_
 exact ⟨hrf, hbk⟩
end Go.Proofs.YtilnppdognejbaaGreatDoor.P
namespace Go.Proofs.YtilnppdognejbaaGreatDoor.P
open Go.RowKit Go.Proofs.YtilnppdognejbaaGreatDoorW.PrintWords Go.Proofs.YtilnppdognejbaaGreatDoorW.PrintLast Go.Proofs.YtilnppdognejbaaGreatDoorW.PrintMore
attribute [local go_sem] max2_int min2_int max_two min_two max_three min_three max_four min_four   -- for this text's walks alone
set_option linter.unusedVariables false
set_option linter.unusedSimpArgs false
def slices_Index_string_string.l0 : Nat → List ByteArray → ByteArray → Int → Int → Option (Int)
 | 0, _, _, _, _ => none
 | k + 1, x0, x1, x7, x8 => if x8 < x7 then (if 0 ≤ x8 then (if x8 < (x0.length : Int) then (if x1.toList = (rdOf ByteArray.empty x0 x8).toList then (some x8) else (slices_Index_string_string.l0 k x0 x1 x7 (wrap64 (x8 + 1)))) else (none)) else (none)) else (some (-1))
def slices_Index_string_string.f (k : Nat) (l0 : List ByteArray) (a1 : ByteArray) : Option (Int) := slices_Index_string_string.l0 k l0 a1 (l0.length : Int) 0
set_option maxHeartbeats 8000000 in
set_option maxRecDepth 100000 in
theorem slices_Index_string_string.calls (k : Nat) (A0 : Option Addr) (c0 : Nat) (l0 : List ByteArray) (a1 : ByteArray) (r : Int) (w : World) (hr0 : Kd.C Kd.string w A0 l0.length l0) (hc0 : l0.length ≤ c0) (h : slices_Index_string_string.f k l0 a1 = some r) :
  Calls Tryz.prog 110 #[.slice A0 l0.length c0, .string a1] w fun e w' => e = .returned (.int .i64 r) ∧ Drawn0 w w' := by
 have HR0 := Aside0.mk hr0
 have HC0 := Aside0.mk hc0
 clear hr0 hc0
 have H : (slices_Index_string_string.l0 k l0 a1 (l0.length : Int) 0) = some r := h
 clear h
 have H' := Aside0.mk H
 clear H
 go_enter Tryz.func110, Tryz.ntmps110
 go_wp2
 go_loopg [8] k (fun kq v8 w' => ∃ (x8_1 : Int), v8 = .int .i64 x8_1 ∧ Aside0 (slices_Index_string_string.l0 kq l0 a1 (l0.length : Int) x8_1 = some r) ∧ Aside0 (kq ≤ k) ∧ Drawn0 w w')
 case atStart => exact ⟨(0), (by first | rfl | (simp; done) | (simp [*]; done)), H', ⟨Nat.le_refl _⟩, by repeat (first | exact Drawn0.refl _ | apply Drawn0.step)⟩
 case round =>
  clear H'
  try clear c1
  try clear p2
  obtain ⟨x8_1, rfl, HA, HK1, ⟨m1, rfl⟩⟩ := hrel
  cases gk with
  | zero => exact absurd HA.out (by simp [slices_Index_string_string.l0])
  | succ k1 =>
   have H := HA.out
   clear HA
   simp only [slices_Index_string_string.l0] at H
   by_cases c3 : x8_1 < (l0.length : Int)
   ·rw [if_pos c3] at H
    have c3b0 : decide (x8_1 < (l0.length : Int)) = true := decide_eq_true c3
    clear c3
    by_cases c4 : 0 ≤ x8_1
    ·rw [if_pos c4] at H
     have c4b0 : decide (0 ≤ x8_1) = true := decide_eq_true c4
     clear c4
     by_cases c5 : x8_1 < (l0.length : Int)
     ·rw [if_pos c5] at H
      have c5b0 : decide (x8_1 < (l0.length : Int)) = true := decide_eq_true c5
      clear c5
      by_cases c6 : a1.toList = (rdOf ByteArray.empty l0 x8_1).toList
      ·rw [if_pos c6] at H
       have c6b0 : (a1.toList == (rdOf ByteArray.empty l0 x8_1).toList) = true := beq_iff_eq.mpr c6
       have c6b1 : (a1.toList != (rdOf ByteArray.empty l0 x8_1).toList) = false := bne_eq_false_iff_eq.mpr c6
       clear c6
       obtain rfl := Option.some.inj H
       have p163 : 0 ≤ (x8_1 : Int) := of_decide_eq_true (by first | (with_reducible assumption) | assumption)
       have q163 : x8_1 < (l0.length : Int) := of_decide_eq_true (by first | (with_reducible assumption) | assumption)
       obtain ⟨ad163, e163, hx163_0⟩ := Kd.at_string HR0.out x8_1 p163 q163
       cases e163
       replace p163 := eq_true p163
       replace q163 := eq_true q163
       go_wp2
       go_ret
       exact ⟨by first | rfl | (simp; done) | (simp [*]; done), by repeat (first | exact Drawn0.refl _ | apply Drawn0.step)⟩
      ·rw [if_neg c6] at H
       have c6b0 : (a1.toList == (rdOf ByteArray.empty l0 x8_1).toList) = false := beq_eq_false_iff_ne.mpr c6
       have c6b1 : (a1.toList != (rdOf ByteArray.empty l0 x8_1).toList) = true := bne_iff_ne.mpr c6
       have H' := Aside0.mk H
       clear H
       have p163 : 0 ≤ (x8_1 : Int) := of_decide_eq_true (by first | (with_reducible assumption) | assumption)
       have q163 : x8_1 < (l0.length : Int) := of_decide_eq_true (by first | (with_reducible assumption) | assumption)
       obtain ⟨ad163, e163, hx163_0⟩ := Kd.at_string HR0.out x8_1 p163 q163
       cases e163
       replace p163 := eq_true p163
       replace q163 := eq_true q163
       go_wp2
       go_roundg k1
       case measure => have := HK1.out; omega
       case rel => exact ⟨(wrap64 (x8_1 + 1)), (by first | rfl | (simp; done) | (simp [*]; done)), H', ⟨by have := HK1.out; omega⟩, by repeat (first | exact Drawn0.refl _ | apply Drawn0.step)⟩
     ·rw [if_neg c5] at H
      exact absurd H (by simp)
    ·rw [if_neg c4] at H
     exact absurd H (by simp)
   ·rw [if_neg c3] at H
    have c3b0 : decide (x8_1 < (l0.length : Int)) = false := decide_eq_false c3
    clear c3
    obtain rfl := Option.some.inj H
    go_wp2
    go_ret
    exact ⟨by first | rfl | (simp; done) | (simp [*]; done), by repeat (first | exact Drawn0.refl _ | apply Drawn0.step)⟩
end Go.Proofs.YtilnppdognejbaaGreatDoor.P
namespace Go.Proofs.YtilnppdognejbaaGreatDoor.P
open Go.RowKit Go.Proofs.YtilnppdognejbaaGreatDoorW.PrintWords Go.Proofs.YtilnppdognejbaaGreatDoorW.PrintLast Go.Proofs.YtilnppdognejbaaGreatDoorW.PrintMore
attribute [local go_sem] max2_int min2_int max_two min_two max_three min_three max_four min_four   -- for this text's walks alone
set_option linter.unusedVariables false
set_option linter.unusedSimpArgs false
def slices_Contains_string_string.f (k : Nat) (l0 : List ByteArray) (a1 : ByteArray) : Option (Bool) := (slices_Index_string_string.f k l0 a1).bind fun t164 => (some (decide (t164 ≥ 0)))
set_option maxHeartbeats 8000000 in
set_option maxRecDepth 100000 in
theorem slices_Contains_string_string.calls (k : Nat) (A0 : Option Addr) (c0 : Nat) (l0 : List ByteArray) (a1 : ByteArray) (r : Bool) (w : World) (hr0 : Kd.C Kd.string w A0 l0.length l0) (hc0 : l0.length ≤ c0) (h : slices_Contains_string_string.f k l0 a1 = some r) :
  Calls Tryz.prog 87 #[.slice A0 l0.length c0, .string a1] w fun e w' => e = .returned (.bool r) ∧ Drawn0 w w' := by
 have HR0 := Aside0.mk hr0
 have HC0 := Aside0.mk hc0
 clear hr0 hc0
 have H : ((slices_Index_string_string.f k l0 a1).bind fun t164 => (some (decide (t164 ≥ 0)))) = some r := h
 clear h
 replace H := Option.bind_eq_some_iff.mp H
 obtain ⟨t164, A30, H⟩ := H
 replace H : (some (decide (t164 ≥ 0))) = some r := H
 have A3 := Aside0.mk A30
 clear A30
 obtain rfl := Option.some.inj H
 go_enter Tryz.func87, Tryz.ntmps87
 go_wp2_with (first | ((with_reducible refine gate_callee (f := 110) rfl ?_); refine goesL_ (some 7) rfl rfl Tryz.func110 (by kernel_rfl) rfl #[.slice A0 l0.length c0, .string a1] rfl hgl ?_; (with_reducible refine (slices_Index_string_string.calls k _ _ l0 a1 t164 _ ?side1 ?side2 A3.out).mono ?_); (case side1 => repeat (first | exact HR0.out | (with_reducible refine Kd.C_alloc ?_ _) | (with_reducible refine Kd.C_drewN ?_ _) | (with_reducible refine Kd.C_drew ?_))); (case side2 => exact HC0.out); rintro e w' ⟨rfl, ⟨nd, rfl⟩⟩; refine ⟨_, rfl, ?_⟩))
 go_ret
 exact ⟨by first | rfl | (simp; done) | (simp [*]; done), by repeat (first | exact Drawn0.refl _ | apply Drawn0.step)⟩
end Go.Proofs.YtilnppdognejbaaGreatDoor.P
namespace Go.Proofs.YtilnppdognejbaaGreatDoor.P
open Go.RowKit Go.Proofs.YtilnppdognejbaaGreatDoorW.PrintWords Go.Proofs.YtilnppdognejbaaGreatDoorW.PrintLast Go.Proofs.YtilnppdognejbaaGreatDoorW.PrintMore
attribute [local go_sem] max2_int min2_int max_two min_two max_three min_three max_four min_four   -- for this text's walks alone
set_option linter.unusedVariables false
set_option linter.unusedSimpArgs false
def sumSt (l0_2 : List S73) (l1 : List S50) (i : Int) : Int × Int × Int × Int × List ByteArray :=
  if i = 0 then (0, 0, 0, 1440, []) else if i = 1 then (1, (wrap64 (wrap64 (rd_T73 l0_2 (rd_T50 l1 0).f0).f4 - (rd_T73 l0_2 (rd_T50 l1 0).f0).f3)), 0, 1440, [(rd_T73 l0_2 (rd_T50 l1 0).f0).f5]) else (2, (wrap64 (wrap64 ((wrap64 (wrap64 (rd_T73 l0_2 (rd_T50 l1 0).f0).f4 - (rd_T73 l0_2 (rd_T50 l1 0).f0).f3)) + (rd_T73 l0_2 (rd_T50 l1 1).f0).f4) - (rd_T73 l0_2 (rd_T50 l1 1).f0).f3)), (wrap64 ((rd_T73 l0_2 (rd_T50 l1 1).f0).f3 - (rd_T73 l0_2 (rd_T50 l1 0).f0).f4)), (wrap64 ((rd_T73 l0_2 (rd_T50 l1 1).f0).f3 - (rd_T73 l0_2 (rd_T50 l1 0).f0).f4)), [(rd_T73 l0_2 (rd_T50 l1 0).f0).f5])
set_option maxHeartbeats 8000000 in
set_option maxRecDepth 100000 in
theorem sum67 (A0_0 : Option Addr) (n0_0 c0_0 : Nat) (A0_1 : Option Addr) (n0_1 c0_1 : Nat) (ad ae : Addr) (c0_2 : Nat) (l0_2 : List S73) (c1 : Nat) (l1 : List S50) (w : World) (hr0 : Kd.C k73 w (some ae) l0_2.length l0_2) (hr1 : Kd.C k50 w (some ad) l1.length l1) (hl : l1.length = 2)
    (hd0 : (rd_T50 l1 0).f1 = false) (hd1 : (rd_T50 l1 1).f1 = false) (f0 : 0 ≤ (rd_T50 l1 0).f0 ∧ (rd_T50 l1 0).f0 < (l0_2.length : Int)) (f1 : 0 ≤ (rd_T50 l1 1).f0 ∧ (rd_T50 l1 1).f0 < (l0_2.length : Int))
    (hw0 : 0 < (wrap64 ((rd_T73 l0_2 (rd_T50 l1 1).f0).f3 - (rd_T73 l0_2 (rd_T50 l1 0).f0).f4))) (hw1 : (wrap64 ((rd_T73 l0_2 (rd_T50 l1 1).f0).f3 - (rd_T73 l0_2 (rd_T50 l1 0).f0).f4)) < 1440) (hc0 : slices_Contains_string_string.f 100 [] (rd_T73 l0_2 (rd_T50 l1 0).f0).f5 = some false) (hc1 : slices_Contains_string_string.f 100 [(rd_T73 l0_2 (rd_T50 l1 0).f0).f5] (rd_T73 l0_2 (rd_T50 l1 1).f0).f5 = some true) :
    Calls Tryz.prog 67 #[.agg #[.slice A0_0 n0_0 c0_0, .slice A0_1 n0_1 c0_1, .slice (some ae) l0_2.length c0_2], .slice (some ad) 2 c1] w fun e w' => ∃ v : Value, e = .returned (.agg #[.int .i64 2, .int .i64 0, .int .i64 (wrap64 (wrap64 ((wrap64 (wrap64 (rd_T73 l0_2 (rd_T50 l1 0).f0).f4 - (rd_T73 l0_2 (rd_T50 l1 0).f0).f3)) + (rd_T73 l0_2 (rd_T50 l1 1).f0).f4) - (rd_T73 l0_2 (rd_T50 l1 1).f0).f3)), .int .i64 (wrap64 ((rd_T73 l0_2 (rd_T50 l1 1).f0).f3 - (rd_T73 l0_2 (rd_T50 l1 0).f0).f4)), .int .i64 (wrap64 ((rd_T73 l0_2 (rd_T50 l1 1).f0).f3 - (rd_T73 l0_2 (rd_T50 l1 0).f0).f4)), v]) ∧ Kd.R Kd.string 9 w' w.heap.size (fun _ => True) v [(rd_T73 l0_2 (rd_T50 l1 0).f0).f5] ∧ Below w.heap.size w w' := by
  have hu1 := Tryz.underlying32
  have hu2 := Tryz.underlying73
  have hu3 := Tryz.underlying50
  have hu4 := Tryz.underlying126
  have HB := Aside0.mk (Below.refl w.heap.size w)
  have HR0 := Aside0.mk hr0
  have HR1 := Aside0.mk hr1
  have HF0 := Aside0.mk f0
  have HF1 := Aside0.mk f1
  have HW0 := Aside0.mk hw0
  have HW1 := Aside0.mk hw1
  have HC0 := Aside0.mk hc0
  have HC1 := Aside0.mk hc1
  have HL := Aside0.mk hl
  have HD0 := Aside0.mk hd0
  have HD1 := Aside0.mk hd1
  clear hr0 hr1 f0 f1 hc0 hc1 hd0 hd1 hl hw0 hw1
  go_enter Tryz.func67, Tryz.ntmps67
  go_wp2_with fail
  go_loopw [13] (fun v13 wr => ∃ (i lg bl lo sh : Int) (v : Value) (ts : List ByteArray), v13 = .int .i64 i ∧ 0 ≤ i ∧ i ≤ 2 ∧ Aside0 (sumSt l0_2 l1 i = (lg, bl, lo, sh, ts)) ∧ Aside0 (Below w.heap.size w wr) ∧ Aside0 (wr.heap[w.heap.size]? = some (.cells #[.slice A0_0 n0_0 c0_0, .slice A0_1 n0_1 c0_1, .slice (some ae) l0_2.length c0_2] 32 (0, 0))) ∧ Aside0 (wr.heap[w.heap.size + 1]? = some (.cells #[.int .i64 0, .int .i64 0, .int .i64 0, .int .i64 0, .int .i64 0, .slice none 0 0] 126 (0, 0))) ∧ Aside0 (wr.heap[w.heap.size + 1 + 1]? = some (.cells #[.int .i64 lg, .int .i64 0, .int .i64 bl, .int .i64 lo, .int .i64 sh, v] 126 (0, 0))) ∧ Aside0 (Kd.R Kd.string 9 wr w.heap.size (fun _ => True) v ts)) (fun v13 _ => (2 - intOf v13).toNat)
  case atStart =>
    refine ⟨0, 0, 0, 0, 1440, .slice none 0 0, [], rfl, by omega, by omega, ⟨rfl⟩, ⟨by repeat (first | (with_reducible exact HB.out) | apply below_alloc | apply pw_below_drewN | apply below_drew1)⟩, ⟨?_⟩, ⟨?_⟩, ⟨?_⟩, ⟨Kd.R_nil _ _ _ _ _⟩⟩
    · exact blk_alloc (blk_alloc (heap_alloc_new w _) _) _
    · exact blk_alloc (by simpa using heap_alloc_new (w.alloc (.cells #[.slice A0_0 n0_0 c0_0, .slice A0_1 n0_1 c0_1, .slice (some ae) l0_2.length c0_2] 32)) (.cells #[.int .i64 0, .int .i64 0, .int .i64 0, .int .i64 0, .int .i64 0, .slice none 0 0] 126)) _
    · simpa using heap_alloc_new ((w.alloc (.cells #[.slice A0_0 n0_0 c0_0, .slice A0_1 n0_1 c0_1, .slice (some ae) l0_2.length c0_2] 32)).alloc (.cells #[.int .i64 0, .int .i64 0, .int .i64 0, .int .i64 0, .int .i64 0, .slice none 0 0] 126)) (.cells #[.int .i64 0, .int .i64 0, .int .i64 0, .int .i64 0, .int .i64 1440, .slice none 0 0] 126)
  case round =>
    clear HB
    obtain ⟨i, lg, bl, lo, sh, v, ts, rfl, hi0, hi1, HS, HB, HT, HZ, HX, HO⟩ := hrel
    obtain rfl | rfl | rfl := (by omega : i = 0 ∨ i = 1 ∨ i = 2)
    · have hs := HS.out
      simp only [sumSt, if_true, Prod.mk.injEq] at hs
      obtain ⟨rfl, rfl, rfl, rfl, rfl⟩ := hs
      obtain ⟨Av, cv, ev⟩ := Kd.R_slice HO.out
      simp only [List.length_nil] at ev
      subst ev
      obtain ⟨b, e, ka0, ka1⟩ := at_T50 (Kd.C_below HR1.out HB.out) 0 (by omega) (by rw [HL.out]; decide)
      obtain rfl := Option.some.inj e
      simp only [Int.toNat_zero, Nat.zero_mul, Addr.add_zero'] at ka0 ka1
      rw [HD0.out] at ka1
      obtain ⟨b, e, ha0, ha1, ha2, ha3, ha4, ha5, ha6, ha7, ha8⟩ := at_T73 (Kd.C_below HR0.out (below_alloc HB.out (.cells #[.int .i64 (rd_T50 l1 0).f0, .bool false] 50))) (rd_T50 l1 0).f0 HF0.out.1 HF0.out.2
      obtain rfl := Option.some.inj e
      have hh : (wr.alloc (.cells #[.int .i64 (rd_T50 l1 0).f0, .bool false] 50)).cell? ⟨w.heap.size, 2, none⟩ = some (.slice (some ae) l0_2.length c0_2) := (blk_cell (blk_alloc HT.out _) 2).trans rfl
      have p0 := eq_true HF0.out.1
      have q0 := eq_true HF0.out.2
      clear hi0 hi1
      go_wp2_with fail
      have hlt := blk_lt HX.out
      have HGE : Aside0 (w.heap.size ≤ w.heap.size + 1 + 1) := ⟨by omega⟩
      have HNT : Aside0 (w.heap.size ≠ w.heap.size + 1 + 1) := ⟨by omega⟩
      have HNZ : Aside0 (w.heap.size + 1 ≠ w.heap.size + 1 + 1) := ⟨by omega⟩
      have HNF : Aside0 (wr.heap.size + 1 ≠ w.heap.size + 1 + 1) := ⟨by omega⟩
      have HBq : Aside0 (Below w.heap.size w ((wr.alloc (.cells #[.int .i64 (rd_T50 l1 0).f0, .bool false] 50)).alloc (.cells #[.string (rd_T73 l0_2 (rd_T50 l1 0).f0).f0, .string (rd_T73 l0_2 (rd_T50 l1 0).f0).f1, .string (rd_T73 l0_2 (rd_T50 l1 0).f0).f2, .int .i64 (rd_T73 l0_2 (rd_T50 l1 0).f0).f3, .int .i64 (rd_T73 l0_2 (rd_T50 l1 0).f0).f4, .string (rd_T73 l0_2 (rd_T50 l1 0).f0).f5, .int .i64 (rd_T73 l0_2 (rd_T50 l1 0).f0).f6.f0, .int .i64 (rd_T73 l0_2 (rd_T50 l1 0).f0).f6.f1, .int .i64 (rd_T73 l0_2 (rd_T50 l1 0).f0).f6.f2] 73))) := ⟨below_alloc (below_alloc HB.out _) _⟩
      have HTq : Aside0 (((wr.alloc (.cells #[.int .i64 (rd_T50 l1 0).f0, .bool false] 50)).alloc (.cells #[.string (rd_T73 l0_2 (rd_T50 l1 0).f0).f0, .string (rd_T73 l0_2 (rd_T50 l1 0).f0).f1, .string (rd_T73 l0_2 (rd_T50 l1 0).f0).f2, .int .i64 (rd_T73 l0_2 (rd_T50 l1 0).f0).f3, .int .i64 (rd_T73 l0_2 (rd_T50 l1 0).f0).f4, .string (rd_T73 l0_2 (rd_T50 l1 0).f0).f5, .int .i64 (rd_T73 l0_2 (rd_T50 l1 0).f0).f6.f0, .int .i64 (rd_T73 l0_2 (rd_T50 l1 0).f0).f6.f1, .int .i64 (rd_T73 l0_2 (rd_T50 l1 0).f0).f6.f2] 73)).heap[w.heap.size]? = some (.cells #[.slice A0_0 n0_0 c0_0, .slice A0_1 n0_1 c0_1, .slice (some ae) l0_2.length c0_2] 32 (0, 0))) := ⟨blk_alloc (blk_alloc HT.out _) _⟩
      have HZq : Aside0 (((wr.alloc (.cells #[.int .i64 (rd_T50 l1 0).f0, .bool false] 50)).alloc (.cells #[.string (rd_T73 l0_2 (rd_T50 l1 0).f0).f0, .string (rd_T73 l0_2 (rd_T50 l1 0).f0).f1, .string (rd_T73 l0_2 (rd_T50 l1 0).f0).f2, .int .i64 (rd_T73 l0_2 (rd_T50 l1 0).f0).f3, .int .i64 (rd_T73 l0_2 (rd_T50 l1 0).f0).f4, .string (rd_T73 l0_2 (rd_T50 l1 0).f0).f5, .int .i64 (rd_T73 l0_2 (rd_T50 l1 0).f0).f6.f0, .int .i64 (rd_T73 l0_2 (rd_T50 l1 0).f0).f6.f1, .int .i64 (rd_T73 l0_2 (rd_T50 l1 0).f0).f6.f2] 73)).heap[w.heap.size + 1]? = some (.cells #[.int .i64 0, .int .i64 0, .int .i64 0, .int .i64 0, .int .i64 0, .slice none 0 0] 126 (0, 0))) := ⟨blk_alloc (blk_alloc HZ.out _) _⟩
      have HXq : Aside0 (((wr.alloc (.cells #[.int .i64 (rd_T50 l1 0).f0, .bool false] 50)).alloc (.cells #[.string (rd_T73 l0_2 (rd_T50 l1 0).f0).f0, .string (rd_T73 l0_2 (rd_T50 l1 0).f0).f1, .string (rd_T73 l0_2 (rd_T50 l1 0).f0).f2, .int .i64 (rd_T73 l0_2 (rd_T50 l1 0).f0).f3, .int .i64 (rd_T73 l0_2 (rd_T50 l1 0).f0).f4, .string (rd_T73 l0_2 (rd_T50 l1 0).f0).f5, .int .i64 (rd_T73 l0_2 (rd_T50 l1 0).f0).f6.f0, .int .i64 (rd_T73 l0_2 (rd_T50 l1 0).f0).f6.f1, .int .i64 (rd_T73 l0_2 (rd_T50 l1 0).f0).f6.f2] 73)).heap[w.heap.size + 1 + 1]? = some (.cells #[.int .i64 0, .int .i64 0, .int .i64 0, .int .i64 0, .int .i64 1440, .slice Av 0 cv] 126 (0, 0))) := ⟨blk_alloc (blk_alloc HX.out _) _⟩
      have HFq : Aside0 (((wr.alloc (.cells #[.int .i64 (rd_T50 l1 0).f0, .bool false] 50)).alloc (.cells #[.string (rd_T73 l0_2 (rd_T50 l1 0).f0).f0, .string (rd_T73 l0_2 (rd_T50 l1 0).f0).f1, .string (rd_T73 l0_2 (rd_T50 l1 0).f0).f2, .int .i64 (rd_T73 l0_2 (rd_T50 l1 0).f0).f3, .int .i64 (rd_T73 l0_2 (rd_T50 l1 0).f0).f4, .string (rd_T73 l0_2 (rd_T50 l1 0).f0).f5, .int .i64 (rd_T73 l0_2 (rd_T50 l1 0).f0).f6.f0, .int .i64 (rd_T73 l0_2 (rd_T50 l1 0).f0).f6.f1, .int .i64 (rd_T73 l0_2 (rd_T50 l1 0).f0).f6.f2] 73)).heap[wr.heap.size + 1]? = some (.cells #[.string (rd_T73 l0_2 (rd_T50 l1 0).f0).f0, .string (rd_T73 l0_2 (rd_T50 l1 0).f0).f1, .string (rd_T73 l0_2 (rd_T50 l1 0).f0).f2, .int .i64 (rd_T73 l0_2 (rd_T50 l1 0).f0).f3, .int .i64 (rd_T73 l0_2 (rd_T50 l1 0).f0).f4, .string (rd_T73 l0_2 (rd_T50 l1 0).f0).f5, .int .i64 (rd_T73 l0_2 (rd_T50 l1 0).f0).f6.f0, .int .i64 (rd_T73 l0_2 (rd_T50 l1 0).f0).f6.f1, .int .i64 (rd_T73 l0_2 (rd_T50 l1 0).f0).f6.f2] 73 (0, 0))) := ⟨by simpa using heap_alloc_new (wr.alloc (.cells #[.int .i64 (rd_T50 l1 0).f0, .bool false] 50)) (.cells #[.string (rd_T73 l0_2 (rd_T50 l1 0).f0).f0, .string (rd_T73 l0_2 (rd_T50 l1 0).f0).f1, .string (rd_T73 l0_2 (rd_T50 l1 0).f0).f2, .int .i64 (rd_T73 l0_2 (rd_T50 l1 0).f0).f3, .int .i64 (rd_T73 l0_2 (rd_T50 l1 0).f0).f4, .string (rd_T73 l0_2 (rd_T50 l1 0).f0).f5, .int .i64 (rd_T73 l0_2 (rd_T50 l1 0).f0).f6.f0, .int .i64 (rd_T73 l0_2 (rd_T50 l1 0).f0).f6.f1, .int .i64 (rd_T73 l0_2 (rd_T50 l1 0).f0).f6.f2] 73)⟩
      have HOq : Aside0 (Kd.R Kd.string 9 ((wr.alloc (.cells #[.int .i64 (rd_T50 l1 0).f0, .bool false] 50)).alloc (.cells #[.string (rd_T73 l0_2 (rd_T50 l1 0).f0).f0, .string (rd_T73 l0_2 (rd_T50 l1 0).f0).f1, .string (rd_T73 l0_2 (rd_T50 l1 0).f0).f2, .int .i64 (rd_T73 l0_2 (rd_T50 l1 0).f0).f3, .int .i64 (rd_T73 l0_2 (rd_T50 l1 0).f0).f4, .string (rd_T73 l0_2 (rd_T50 l1 0).f0).f5, .int .i64 (rd_T73 l0_2 (rd_T50 l1 0).f0).f6.f0, .int .i64 (rd_T73 l0_2 (rd_T50 l1 0).f0).f6.f1, .int .i64 (rd_T73 l0_2 (rd_T50 l1 0).f0).f6.f2] 73)) w.heap.size (fun _ => True) (.slice Av 0 cv) []) := ⟨Kd.R_alloc (Kd.R_alloc HO.out _) _⟩
      clear hlt
      have hx0 : ((wr.alloc (.cells #[.int .i64 (rd_T50 l1 0).f0, .bool false] 50)).alloc (.cells #[.string (rd_T73 l0_2 (rd_T50 l1 0).f0).f0, .string (rd_T73 l0_2 (rd_T50 l1 0).f0).f1, .string (rd_T73 l0_2 (rd_T50 l1 0).f0).f2, .int .i64 (rd_T73 l0_2 (rd_T50 l1 0).f0).f3, .int .i64 (rd_T73 l0_2 (rd_T50 l1 0).f0).f4, .string (rd_T73 l0_2 (rd_T50 l1 0).f0).f5, .int .i64 (rd_T73 l0_2 (rd_T50 l1 0).f0).f6.f0, .int .i64 (rd_T73 l0_2 (rd_T50 l1 0).f0).f6.f1, .int .i64 (rd_T73 l0_2 (rd_T50 l1 0).f0).f6.f2] 73)).cell? ⟨w.heap.size + 1 + 1, 0, none⟩ = some (.int .i64 0) := (blk_cell HXq.out 0).trans rfl
      have hx2 : ((wr.alloc (.cells #[.int .i64 (rd_T50 l1 0).f0, .bool false] 50)).alloc (.cells #[.string (rd_T73 l0_2 (rd_T50 l1 0).f0).f0, .string (rd_T73 l0_2 (rd_T50 l1 0).f0).f1, .string (rd_T73 l0_2 (rd_T50 l1 0).f0).f2, .int .i64 (rd_T73 l0_2 (rd_T50 l1 0).f0).f3, .int .i64 (rd_T73 l0_2 (rd_T50 l1 0).f0).f4, .string (rd_T73 l0_2 (rd_T50 l1 0).f0).f5, .int .i64 (rd_T73 l0_2 (rd_T50 l1 0).f0).f6.f0, .int .i64 (rd_T73 l0_2 (rd_T50 l1 0).f0).f6.f1, .int .i64 (rd_T73 l0_2 (rd_T50 l1 0).f0).f6.f2] 73)).cell? ⟨w.heap.size + 1 + 1, 2, none⟩ = some (.int .i64 0) := (blk_cell HXq.out 2).trans rfl
      have hff4 : ((wr.alloc (.cells #[.int .i64 (rd_T50 l1 0).f0, .bool false] 50)).alloc (.cells #[.string (rd_T73 l0_2 (rd_T50 l1 0).f0).f0, .string (rd_T73 l0_2 (rd_T50 l1 0).f0).f1, .string (rd_T73 l0_2 (rd_T50 l1 0).f0).f2, .int .i64 (rd_T73 l0_2 (rd_T50 l1 0).f0).f3, .int .i64 (rd_T73 l0_2 (rd_T50 l1 0).f0).f4, .string (rd_T73 l0_2 (rd_T50 l1 0).f0).f5, .int .i64 (rd_T73 l0_2 (rd_T50 l1 0).f0).f6.f0, .int .i64 (rd_T73 l0_2 (rd_T50 l1 0).f0).f6.f1, .int .i64 (rd_T73 l0_2 (rd_T50 l1 0).f0).f6.f2] 73)).cell? ⟨wr.heap.size + 1, 4, none⟩ = some (.int .i64 (rd_T73 l0_2 (rd_T50 l1 0).f0).f4) := (blk_cell HFq.out 4).trans rfl
      have hff3 : ((wr.alloc (.cells #[.int .i64 (rd_T50 l1 0).f0, .bool false] 50)).alloc (.cells #[.string (rd_T73 l0_2 (rd_T50 l1 0).f0).f0, .string (rd_T73 l0_2 (rd_T50 l1 0).f0).f1, .string (rd_T73 l0_2 (rd_T50 l1 0).f0).f2, .int .i64 (rd_T73 l0_2 (rd_T50 l1 0).f0).f3, .int .i64 (rd_T73 l0_2 (rd_T50 l1 0).f0).f4, .string (rd_T73 l0_2 (rd_T50 l1 0).f0).f5, .int .i64 (rd_T73 l0_2 (rd_T50 l1 0).f0).f6.f0, .int .i64 (rd_T73 l0_2 (rd_T50 l1 0).f0).f6.f1, .int .i64 (rd_T73 l0_2 (rd_T50 l1 0).f0).f6.f2] 73)).cell? ⟨wr.heap.size + 1, 3, none⟩ = some (.int .i64 (rd_T73 l0_2 (rd_T50 l1 0).f0).f3) := (blk_cell HFq.out 3).trans rfl
      have hf0 := blk_frozen HXq.out 0
      have hf2 := blk_frozen HXq.out 2
      go_cut [58] (fun v58 wx => Aside0 (Below w.heap.size w wx) ∧ Aside0 (wx.heap[w.heap.size]? = some (.cells #[.slice A0_0 n0_0 c0_0, .slice A0_1 n0_1 c0_1, .slice (some ae) l0_2.length c0_2] 32 (0, 0))) ∧ Aside0 (wx.heap[w.heap.size + 1]? = some (.cells #[.int .i64 0, .int .i64 0, .int .i64 0, .int .i64 0, .int .i64 0, .slice none 0 0] 126 (0, 0))) ∧ Aside0 (wx.heap[w.heap.size + 1 + 1]? = some (.cells #[.int .i64 1, .int .i64 0, .int .i64 (wrap64 (wrap64 (rd_T73 l0_2 (rd_T50 l1 0).f0).f4 - (rd_T73 l0_2 (rd_T50 l1 0).f0).f3)), .int .i64 0, .int .i64 1440, (.slice Av 0 cv)] 126 (0, 0))) ∧ Aside0 (wx.heap[wr.heap.size + 1]? = some (.cells #[.string (rd_T73 l0_2 (rd_T50 l1 0).f0).f0, .string (rd_T73 l0_2 (rd_T50 l1 0).f0).f1, .string (rd_T73 l0_2 (rd_T50 l1 0).f0).f2, .int .i64 (rd_T73 l0_2 (rd_T50 l1 0).f0).f3, .int .i64 (rd_T73 l0_2 (rd_T50 l1 0).f0).f4, .string (rd_T73 l0_2 (rd_T50 l1 0).f0).f5, .int .i64 (rd_T73 l0_2 (rd_T50 l1 0).f0).f6.f0, .int .i64 (rd_T73 l0_2 (rd_T50 l1 0).f0).f6.f1, .int .i64 (rd_T73 l0_2 (rd_T50 l1 0).f0).f6.f2] 73 (0, 0))) ∧ Aside0 (Kd.R Kd.string 9 wx w.heap.size (fun _ => True) (.slice Av 0 cv) []))
      case first =>
        go_region
        all_goals (go_wp2_with fail; go_meet)
        all_goals exact ⟨⟨by repeat (first | (with_reducible exact HBq.out) | apply below_alloc | apply pw_below_drewN | apply below_drew1 | refine below_set ?_ HGE.out)⟩, ⟨by repeat (first | (with_reducible exact HTq.out) | refine blk_drew ?_ | refine blk_drewN ?_ _ | refine blk_far ?_ HNT.out _)⟩, ⟨by repeat (first | (with_reducible exact HZq.out) | refine blk_drew ?_ | refine blk_drewN ?_ _ | refine blk_far ?_ HNZ.out _)⟩, ⟨blk_drew (blk_set (blk_set HXq.out 0 _) 2 _)⟩, ⟨by repeat (first | (with_reducible exact HFq.out) | refine blk_drew ?_ | refine blk_drewN ?_ _ | refine blk_far ?_ HNF.out _)⟩, ⟨Kd.R_drew (Kd.R_set (Kd.R_set HOq.out HXq.out (by decide) 0 _) (blk_set HXq.out 0 _) (by decide) 2 _)⟩⟩
      case rest =>
        obtain ⟨HBx, HTx, HZx, HXx, HFx, HOx⟩ := hcut
        have hw5 : wc.cell? ⟨w.heap.size + 1 + 1, 5, none⟩ = some ((.slice Av 0 cv)) := (blk_cell HXx.out 5).trans rfl
        have ht5 : wc.cell? ⟨wr.heap.size + 1, 5, none⟩ = some (.string (rd_T73 l0_2 (rd_T50 l1 0).f0).f5) := (blk_cell HFx.out 5).trans rfl
        go_wp2_with (first | (go_at_call 87; (refine (slices_Contains_string_string.calls 100 Av cv [] (rd_T73 l0_2 (rd_T50 l1 0).f0).f5 false _ ?q1 ?q2 HC0.out).mono ?_); (case q1 => exact ⟨rfl, by decide, fun h => absurd h (by decide)⟩); (case q2 => exact Nat.zero_le _); rintro e w4 ⟨rfl, hd⟩; have hb : Below wc.heap.size wc w4 := (by obtain ⟨nd, rfl⟩ := hd; exact pw_below_drewN (Below.refl _ _) _); clear hd; have HB4 := Aside0.mk (below_step HBx.out hb); have HT4 := Aside0.mk (blk_below (g := w.heap.size) (o := (.cells #[.slice A0_0 n0_0 c0_0, .slice A0_1 n0_1 c0_1, .slice (some ae) l0_2.length c0_2] 32 (0, 0))) HTx.out hb); have HZ4 := Aside0.mk (blk_below (g := w.heap.size + 1) (o := (.cells #[.int .i64 0, .int .i64 0, .int .i64 0, .int .i64 0, .int .i64 0, .slice none 0 0] 126 (0, 0))) HZx.out hb); have HX4 := Aside0.mk (blk_below (g := w.heap.size + 1 + 1) (o := (.cells #[.int .i64 1, .int .i64 0, .int .i64 (wrap64 (wrap64 (rd_T73 l0_2 (rd_T50 l1 0).f0).f4 - (rd_T73 l0_2 (rd_T50 l1 0).f0).f3)), .int .i64 0, .int .i64 1440, .slice Av 0 cv] 126 (0, 0))) HXx.out hb); have HF4 := Aside0.mk (blk_below (g := wr.heap.size + 1) (o := (.cells #[.string (rd_T73 l0_2 (rd_T50 l1 0).f0).f0, .string (rd_T73 l0_2 (rd_T50 l1 0).f0).f1, .string (rd_T73 l0_2 (rd_T50 l1 0).f0).f2, .int .i64 (rd_T73 l0_2 (rd_T50 l1 0).f0).f3, .int .i64 (rd_T73 l0_2 (rd_T50 l1 0).f0).f4, .string (rd_T73 l0_2 (rd_T50 l1 0).f0).f5, .int .i64 (rd_T73 l0_2 (rd_T50 l1 0).f0).f6.f0, .int .i64 (rd_T73 l0_2 (rd_T50 l1 0).f0).f6.f1, .int .i64 (rd_T73 l0_2 (rd_T50 l1 0).f0).f6.f2] 73 (0, 0))) HFx.out hb); have HO4 := Aside0.mk (Kd.R_below HOx.out hb); have hz5 : w4.cell? ⟨w.heap.size + 1 + 1, 5, none⟩ = some (.slice Av 0 cv) := (blk_cell HX4.out 5).trans rfl; have hy5 : w4.cell? ⟨wr.heap.size + 1, 5, none⟩ = some (.string (rd_T73 l0_2 (rd_T50 l1 0).f0).f5) := (blk_cell HF4.out 5).trans rfl; clear hb hw5 ht5) | ((with_reducible refine gate_builtin (b := .append) (xs := #[.tmp 76, .tmp 79]) rfl ?_); at_builtin; refine Kd.R_append Kd.string (w0 := w) w.heap.size rfl (.tmp 76) (.tmp 79) 123 9 (.string ⟨#[]⟩) 16 rfl Tryz.underlying123 (show (Tryz.prog.info? 9).map (fun i => (i.zero, i.size, i.bytes)) = some (some (.string ⟨#[]⟩), 1, 16) by kernel_rfl) rfl (by decide) (by decide) (.slice Av 0 cv) ([] : List ByteArray) (rd_T73 l0_2 (rd_T50 l1 0).f0).f5 [.string (rd_T73 l0_2 (rd_T50 l1 0).f0).f5] (fun _ => True) (fun _ => False) rfl rfl ?aP (fun _ hk => hk.elim) (fun _ _ => trivial) HO4.out HB4.out HB4.out.size (by decide) ?_; (case aP => exact rfl); intro v1 w5 ho hb hgr hat; rw [List.nil_append] at ho; obtain ⟨A5, c5, e5⟩ := Kd.R_slice ho; subst e5; have HX5 := Aside0.mk (blk_grown HX4.out hgr (Kd.R_ne HO4.out HX4.out (by decide))); have HT5 := Aside0.mk (blk_grown HT4.out hgr (Kd.R_ne HO4.out HT4.out (by decide))); have HZ5 := Aside0.mk (blk_grown HZ4.out hgr (Kd.R_ne HO4.out HZ4.out (by decide))); have HO5 := Aside0.mk ho; have HB5 := Aside0.mk hb; have hx5 : w5.cell? ⟨w.heap.size + 1 + 1, 5, none⟩ = some (.slice Av 0 cv) := (blk_cell HX5.out 5).trans rfl; have hg5 := blk_frozen HX5.out 5; clear ho hb hgr hat hz5 hy5))
        go_roundw
        case rel => exact ⟨1, 1, _, 0, 1440, _, [(rd_T73 l0_2 (rd_T50 l1 0).f0).f5], rfl, by omega, by omega, ⟨rfl⟩, ⟨below_set HB5.out HGE.out⟩, ⟨blk_far HT5.out HNT.out _⟩, ⟨blk_far HZ5.out HNZ.out _⟩, ⟨blk_set HX5.out 5 _⟩, ⟨Kd.R_set HO5.out HX5.out (by decide) 5 _⟩⟩
        case measure => simp [intOf]
    · have hs : ((1 : Int), (wrap64 (wrap64 (rd_T73 l0_2 (rd_T50 l1 0).f0).f4 - (rd_T73 l0_2 (rd_T50 l1 0).f0).f3)), (0 : Int), (1440 : Int), [(rd_T73 l0_2 (rd_T50 l1 0).f0).f5]) = (lg, bl, lo, sh, ts) := HS.out
      simp only [Prod.mk.injEq] at hs
      obtain ⟨rfl, rfl, rfl, rfl, rfl⟩ := hs
      obtain ⟨Av, cv, ev⟩ := Kd.R_slice HO.out
      subst ev
      obtain ⟨b, e, ka0, ka1⟩ := at_T50 (Kd.C_below HR1.out HB.out) 1 (by omega) (by rw [HL.out]; decide)
      obtain rfl := Option.some.inj e
      simp only [Int.reduceToNat, Nat.reduceMul] at ka0 ka1
      rw [HD1.out] at ka1
      have kc0 : wr.cell? ⟨ad.block, ad.off + 2, none⟩ = some (.int .i64 (rd_T50 l1 1).f0) := ka0
      have kc1 : wr.cell? ⟨ad.block, ad.off + 2 + 1, none⟩ = some (.bool false) := ka1
      obtain ⟨b, e, ha0, ha1, ha2, ha3, ha4, ha5, ha6, ha7, ha8⟩ := at_T73 (Kd.C_below HR0.out (below_alloc HB.out (.cells #[.int .i64 (rd_T50 l1 1).f0, .bool false] 50))) (rd_T50 l1 1).f0 HF1.out.1 HF1.out.2
      obtain rfl := Option.some.inj e
      have hh : (wr.alloc (.cells #[.int .i64 (rd_T50 l1 1).f0, .bool false] 50)).cell? ⟨w.heap.size, 2, none⟩ = some (.slice (some ae) l0_2.length c0_2) := (blk_cell (blk_alloc HT.out _) 2).trans rfl
      have p0 := eq_true HF1.out.1
      have q0 := eq_true HF1.out.2
      clear hi0 hi1
      go_upto_if 25 with (fail)
      have hlt := blk_lt HX.out
      have HGE : Aside0 (w.heap.size ≤ w.heap.size + 1 + 1) := ⟨by omega⟩
      have HNT : Aside0 (w.heap.size ≠ w.heap.size + 1 + 1) := ⟨by omega⟩
      have HNZ : Aside0 (w.heap.size + 1 ≠ w.heap.size + 1 + 1) := ⟨by omega⟩
      have HNF : Aside0 (wr.heap.size + 1 ≠ w.heap.size + 1 + 1) := ⟨by omega⟩
      have HBq : Aside0 (Below w.heap.size w ((wr.alloc (.cells #[.int .i64 (rd_T50 l1 1).f0, .bool false] 50)).alloc (.cells #[.string (rd_T73 l0_2 (rd_T50 l1 1).f0).f0, .string (rd_T73 l0_2 (rd_T50 l1 1).f0).f1, .string (rd_T73 l0_2 (rd_T50 l1 1).f0).f2, .int .i64 (rd_T73 l0_2 (rd_T50 l1 1).f0).f3, .int .i64 (rd_T73 l0_2 (rd_T50 l1 1).f0).f4, .string (rd_T73 l0_2 (rd_T50 l1 1).f0).f5, .int .i64 (rd_T73 l0_2 (rd_T50 l1 1).f0).f6.f0, .int .i64 (rd_T73 l0_2 (rd_T50 l1 1).f0).f6.f1, .int .i64 (rd_T73 l0_2 (rd_T50 l1 1).f0).f6.f2] 73))) := ⟨below_alloc (below_alloc HB.out _) _⟩
      have HTq : Aside0 (((wr.alloc (.cells #[.int .i64 (rd_T50 l1 1).f0, .bool false] 50)).alloc (.cells #[.string (rd_T73 l0_2 (rd_T50 l1 1).f0).f0, .string (rd_T73 l0_2 (rd_T50 l1 1).f0).f1, .string (rd_T73 l0_2 (rd_T50 l1 1).f0).f2, .int .i64 (rd_T73 l0_2 (rd_T50 l1 1).f0).f3, .int .i64 (rd_T73 l0_2 (rd_T50 l1 1).f0).f4, .string (rd_T73 l0_2 (rd_T50 l1 1).f0).f5, .int .i64 (rd_T73 l0_2 (rd_T50 l1 1).f0).f6.f0, .int .i64 (rd_T73 l0_2 (rd_T50 l1 1).f0).f6.f1, .int .i64 (rd_T73 l0_2 (rd_T50 l1 1).f0).f6.f2] 73)).heap[w.heap.size]? = some (.cells #[.slice A0_0 n0_0 c0_0, .slice A0_1 n0_1 c0_1, .slice (some ae) l0_2.length c0_2] 32 (0, 0))) := ⟨blk_alloc (blk_alloc HT.out _) _⟩
      have HZq : Aside0 (((wr.alloc (.cells #[.int .i64 (rd_T50 l1 1).f0, .bool false] 50)).alloc (.cells #[.string (rd_T73 l0_2 (rd_T50 l1 1).f0).f0, .string (rd_T73 l0_2 (rd_T50 l1 1).f0).f1, .string (rd_T73 l0_2 (rd_T50 l1 1).f0).f2, .int .i64 (rd_T73 l0_2 (rd_T50 l1 1).f0).f3, .int .i64 (rd_T73 l0_2 (rd_T50 l1 1).f0).f4, .string (rd_T73 l0_2 (rd_T50 l1 1).f0).f5, .int .i64 (rd_T73 l0_2 (rd_T50 l1 1).f0).f6.f0, .int .i64 (rd_T73 l0_2 (rd_T50 l1 1).f0).f6.f1, .int .i64 (rd_T73 l0_2 (rd_T50 l1 1).f0).f6.f2] 73)).heap[w.heap.size + 1]? = some (.cells #[.int .i64 0, .int .i64 0, .int .i64 0, .int .i64 0, .int .i64 0, .slice none 0 0] 126 (0, 0))) := ⟨blk_alloc (blk_alloc HZ.out _) _⟩
      have HXq : Aside0 (((wr.alloc (.cells #[.int .i64 (rd_T50 l1 1).f0, .bool false] 50)).alloc (.cells #[.string (rd_T73 l0_2 (rd_T50 l1 1).f0).f0, .string (rd_T73 l0_2 (rd_T50 l1 1).f0).f1, .string (rd_T73 l0_2 (rd_T50 l1 1).f0).f2, .int .i64 (rd_T73 l0_2 (rd_T50 l1 1).f0).f3, .int .i64 (rd_T73 l0_2 (rd_T50 l1 1).f0).f4, .string (rd_T73 l0_2 (rd_T50 l1 1).f0).f5, .int .i64 (rd_T73 l0_2 (rd_T50 l1 1).f0).f6.f0, .int .i64 (rd_T73 l0_2 (rd_T50 l1 1).f0).f6.f1, .int .i64 (rd_T73 l0_2 (rd_T50 l1 1).f0).f6.f2] 73)).heap[w.heap.size + 1 + 1]? = some (.cells #[.int .i64 1, .int .i64 0, .int .i64 (wrap64 (wrap64 (rd_T73 l0_2 (rd_T50 l1 0).f0).f4 - (rd_T73 l0_2 (rd_T50 l1 0).f0).f3)), .int .i64 0, .int .i64 1440, .slice Av ([(rd_T73 l0_2 (rd_T50 l1 0).f0).f5] : List ByteArray).length cv] 126 (0, 0))) := ⟨blk_alloc (blk_alloc HX.out _) _⟩
      have HFq : Aside0 (((wr.alloc (.cells #[.int .i64 (rd_T50 l1 1).f0, .bool false] 50)).alloc (.cells #[.string (rd_T73 l0_2 (rd_T50 l1 1).f0).f0, .string (rd_T73 l0_2 (rd_T50 l1 1).f0).f1, .string (rd_T73 l0_2 (rd_T50 l1 1).f0).f2, .int .i64 (rd_T73 l0_2 (rd_T50 l1 1).f0).f3, .int .i64 (rd_T73 l0_2 (rd_T50 l1 1).f0).f4, .string (rd_T73 l0_2 (rd_T50 l1 1).f0).f5, .int .i64 (rd_T73 l0_2 (rd_T50 l1 1).f0).f6.f0, .int .i64 (rd_T73 l0_2 (rd_T50 l1 1).f0).f6.f1, .int .i64 (rd_T73 l0_2 (rd_T50 l1 1).f0).f6.f2] 73)).heap[wr.heap.size + 1]? = some (.cells #[.string (rd_T73 l0_2 (rd_T50 l1 1).f0).f0, .string (rd_T73 l0_2 (rd_T50 l1 1).f0).f1, .string (rd_T73 l0_2 (rd_T50 l1 1).f0).f2, .int .i64 (rd_T73 l0_2 (rd_T50 l1 1).f0).f3, .int .i64 (rd_T73 l0_2 (rd_T50 l1 1).f0).f4, .string (rd_T73 l0_2 (rd_T50 l1 1).f0).f5, .int .i64 (rd_T73 l0_2 (rd_T50 l1 1).f0).f6.f0, .int .i64 (rd_T73 l0_2 (rd_T50 l1 1).f0).f6.f1, .int .i64 (rd_T73 l0_2 (rd_T50 l1 1).f0).f6.f2] 73 (0, 0))) := ⟨by simpa using heap_alloc_new (wr.alloc (.cells #[.int .i64 (rd_T50 l1 1).f0, .bool false] 50)) (.cells #[.string (rd_T73 l0_2 (rd_T50 l1 1).f0).f0, .string (rd_T73 l0_2 (rd_T50 l1 1).f0).f1, .string (rd_T73 l0_2 (rd_T50 l1 1).f0).f2, .int .i64 (rd_T73 l0_2 (rd_T50 l1 1).f0).f3, .int .i64 (rd_T73 l0_2 (rd_T50 l1 1).f0).f4, .string (rd_T73 l0_2 (rd_T50 l1 1).f0).f5, .int .i64 (rd_T73 l0_2 (rd_T50 l1 1).f0).f6.f0, .int .i64 (rd_T73 l0_2 (rd_T50 l1 1).f0).f6.f1, .int .i64 (rd_T73 l0_2 (rd_T50 l1 1).f0).f6.f2] 73)⟩
      have HOq : Aside0 (Kd.R Kd.string 9 ((wr.alloc (.cells #[.int .i64 (rd_T50 l1 1).f0, .bool false] 50)).alloc (.cells #[.string (rd_T73 l0_2 (rd_T50 l1 1).f0).f0, .string (rd_T73 l0_2 (rd_T50 l1 1).f0).f1, .string (rd_T73 l0_2 (rd_T50 l1 1).f0).f2, .int .i64 (rd_T73 l0_2 (rd_T50 l1 1).f0).f3, .int .i64 (rd_T73 l0_2 (rd_T50 l1 1).f0).f4, .string (rd_T73 l0_2 (rd_T50 l1 1).f0).f5, .int .i64 (rd_T73 l0_2 (rd_T50 l1 1).f0).f6.f0, .int .i64 (rd_T73 l0_2 (rd_T50 l1 1).f0).f6.f1, .int .i64 (rd_T73 l0_2 (rd_T50 l1 1).f0).f6.f2] 73)) w.heap.size (fun _ => True) (.slice Av ([(rd_T73 l0_2 (rd_T50 l1 0).f0).f5] : List ByteArray).length cv) [(rd_T73 l0_2 (rd_T50 l1 0).f0).f5]) := ⟨Kd.R_alloc (Kd.R_alloc HO.out _) _⟩
      clear hlt
      have HNK : Aside0 (wr.heap.size ≠ w.heap.size + 1 + 1) := ⟨by have := blk_lt HX.out; omega⟩
      have HKq : Aside0 (((wr.alloc (.cells #[.int .i64 (rd_T50 l1 1).f0, .bool false] 50)).alloc (.cells #[.string (rd_T73 l0_2 (rd_T50 l1 1).f0).f0, .string (rd_T73 l0_2 (rd_T50 l1 1).f0).f1, .string (rd_T73 l0_2 (rd_T50 l1 1).f0).f2, .int .i64 (rd_T73 l0_2 (rd_T50 l1 1).f0).f3, .int .i64 (rd_T73 l0_2 (rd_T50 l1 1).f0).f4, .string (rd_T73 l0_2 (rd_T50 l1 1).f0).f5, .int .i64 (rd_T73 l0_2 (rd_T50 l1 1).f0).f6.f0, .int .i64 (rd_T73 l0_2 (rd_T50 l1 1).f0).f6.f1, .int .i64 (rd_T73 l0_2 (rd_T50 l1 1).f0).f6.f2] 73)).heap[wr.heap.size]? = some (.cells #[.int .i64 (rd_T50 l1 1).f0, .bool false] 50 (0, 0))) := ⟨blk_alloc (heap_alloc_new wr _) _⟩
      go_cut [9, 40, 41, 42, 43, 44, 45, 46, 47, 48, 49] (fun v9 v40 v41 v42 v43 v44 v45 v46 v47 v48 v49 wx => Aside0 (Below w.heap.size w wx) ∧ Aside0 (wx.heap[w.heap.size]? = some (.cells #[.slice A0_0 n0_0 c0_0, .slice A0_1 n0_1 c0_1, .slice (some ae) l0_2.length c0_2] 32 (0, 0))) ∧ Aside0 (wx.heap[w.heap.size + 1]? = some (.cells #[.int .i64 0, .int .i64 0, .int .i64 0, .int .i64 0, .int .i64 0, .slice none 0 0] 126 (0, 0))) ∧ Aside0 (wx.heap[w.heap.size + 1 + 1]? = some (.cells #[.int .i64 1, .int .i64 0, .int .i64 (wrap64 (wrap64 (rd_T73 l0_2 (rd_T50 l1 0).f0).f4 - (rd_T73 l0_2 (rd_T50 l1 0).f0).f3)), .int .i64 (wrap64 ((rd_T73 l0_2 (rd_T50 l1 1).f0).f3 - (rd_T73 l0_2 (rd_T50 l1 0).f0).f4)), .int .i64 (wrap64 ((rd_T73 l0_2 (rd_T50 l1 1).f0).f3 - (rd_T73 l0_2 (rd_T50 l1 0).f0).f4)), (.slice Av ([(rd_T73 l0_2 (rd_T50 l1 0).f0).f5] : List ByteArray).length cv)] 126 (0, 0))) ∧ Aside0 (wx.heap[wr.heap.size + 1]? = some (.cells #[.string (rd_T73 l0_2 (rd_T50 l1 1).f0).f0, .string (rd_T73 l0_2 (rd_T50 l1 1).f0).f1, .string (rd_T73 l0_2 (rd_T50 l1 1).f0).f2, .int .i64 (rd_T73 l0_2 (rd_T50 l1 1).f0).f3, .int .i64 (rd_T73 l0_2 (rd_T50 l1 1).f0).f4, .string (rd_T73 l0_2 (rd_T50 l1 1).f0).f5, .int .i64 (rd_T73 l0_2 (rd_T50 l1 1).f0).f6.f0, .int .i64 (rd_T73 l0_2 (rd_T50 l1 1).f0).f6.f1, .int .i64 (rd_T73 l0_2 (rd_T50 l1 1).f0).f6.f2] 73 (0, 0))) ∧ Aside0 (Kd.R Kd.string 9 wx w.heap.size (fun _ => True) (.slice Av ([(rd_T73 l0_2 (rd_T50 l1 0).f0).f5] : List ByteArray).length cv) [(rd_T73 l0_2 (rd_T50 l1 0).f0).f5]) ∧ Aside0 (wx.heap[wr.heap.size]? = some (.cells #[.int .i64 (rd_T50 l1 1).f0, .bool false] 50 (0, 0))))
      case first =>
        obtain ⟨b, e, kb0, kb1⟩ := at_T50 (Kd.C_below HR1.out HBq.out) 0 (by omega) (by rw [HL.out]; decide)
        obtain rfl := Option.some.inj e
        simp only [Int.toNat_zero, Nat.zero_mul, Addr.add_zero'] at kb0 kb1
        obtain ⟨b, e, hb0, hb1, hb2, hb3, hb4, hb5, hb6, hb7, hb8⟩ := at_T73 (Kd.C_below HR0.out HBq.out) (rd_T50 l1 0).f0 HF0.out.1 HF0.out.2
        obtain rfl := Option.some.inj e
        have hh2 : ((wr.alloc (.cells #[.int .i64 (rd_T50 l1 1).f0, .bool false] 50)).alloc (.cells #[.string (rd_T73 l0_2 (rd_T50 l1 1).f0).f0, .string (rd_T73 l0_2 (rd_T50 l1 1).f0).f1, .string (rd_T73 l0_2 (rd_T50 l1 1).f0).f2, .int .i64 (rd_T73 l0_2 (rd_T50 l1 1).f0).f3, .int .i64 (rd_T73 l0_2 (rd_T50 l1 1).f0).f4, .string (rd_T73 l0_2 (rd_T50 l1 1).f0).f5, .int .i64 (rd_T73 l0_2 (rd_T50 l1 1).f0).f6.f0, .int .i64 (rd_T73 l0_2 (rd_T50 l1 1).f0).f6.f1, .int .i64 (rd_T73 l0_2 (rd_T50 l1 1).f0).f6.f2] 73)).cell? ⟨w.heap.size, 2, none⟩ = some (.slice (some ae) l0_2.length c0_2) := (blk_cell HTq.out 2).trans rfl
        have hx3 : ((wr.alloc (.cells #[.int .i64 (rd_T50 l1 1).f0, .bool false] 50)).alloc (.cells #[.string (rd_T73 l0_2 (rd_T50 l1 1).f0).f0, .string (rd_T73 l0_2 (rd_T50 l1 1).f0).f1, .string (rd_T73 l0_2 (rd_T50 l1 1).f0).f2, .int .i64 (rd_T73 l0_2 (rd_T50 l1 1).f0).f3, .int .i64 (rd_T73 l0_2 (rd_T50 l1 1).f0).f4, .string (rd_T73 l0_2 (rd_T50 l1 1).f0).f5, .int .i64 (rd_T73 l0_2 (rd_T50 l1 1).f0).f6.f0, .int .i64 (rd_T73 l0_2 (rd_T50 l1 1).f0).f6.f1, .int .i64 (rd_T73 l0_2 (rd_T50 l1 1).f0).f6.f2] 73)).cell? ⟨w.heap.size + 1 + 1, 3, none⟩ = some (.int .i64 0) := (blk_cell HXq.out 3).trans rfl
        have hx4 : ((wr.alloc (.cells #[.int .i64 (rd_T50 l1 1).f0, .bool false] 50)).alloc (.cells #[.string (rd_T73 l0_2 (rd_T50 l1 1).f0).f0, .string (rd_T73 l0_2 (rd_T50 l1 1).f0).f1, .string (rd_T73 l0_2 (rd_T50 l1 1).f0).f2, .int .i64 (rd_T73 l0_2 (rd_T50 l1 1).f0).f3, .int .i64 (rd_T73 l0_2 (rd_T50 l1 1).f0).f4, .string (rd_T73 l0_2 (rd_T50 l1 1).f0).f5, .int .i64 (rd_T73 l0_2 (rd_T50 l1 1).f0).f6.f0, .int .i64 (rd_T73 l0_2 (rd_T50 l1 1).f0).f6.f1, .int .i64 (rd_T73 l0_2 (rd_T50 l1 1).f0).f6.f2] 73)).cell? ⟨w.heap.size + 1 + 1, 4, none⟩ = some (.int .i64 1440) := (blk_cell HXq.out 4).trans rfl
        have hf3 := blk_frozen HXq.out 3
        have hf4 := blk_frozen HXq.out 4
        have p2 := eq_true HF0.out.1
        have q2 := eq_true HF0.out.2
        have hw0 := HW0.out
        have hw1 := HW1.out
        clear ka0 ka1 kc0 kc1 hh ha0 ha1 ha2 ha3 ha4 ha5 ha6 ha7 ha8 kb1
        go_wp2_with fail
        go_quiet (fail)
        go_wp2_with fail
        go_meet
        exact ⟨⟨by repeat (first | (with_reducible exact HBq.out) | apply below_alloc | apply pw_below_drewN | apply below_drew1 | refine below_set ?_ HGE.out)⟩, ⟨by repeat (first | (with_reducible exact HTq.out) | refine blk_drew ?_ | refine blk_drewN ?_ _ | refine blk_far ?_ HNT.out _)⟩, ⟨by repeat (first | (with_reducible exact HZq.out) | refine blk_drew ?_ | refine blk_drewN ?_ _ | refine blk_far ?_ HNZ.out _)⟩, ⟨blk_set (blk_set (blk_drewN HXq.out _) 3 _) 4 _⟩, ⟨by repeat (first | (with_reducible exact HFq.out) | refine blk_drew ?_ | refine blk_drewN ?_ _ | refine blk_far ?_ HNF.out _)⟩, ⟨Kd.R_set (Kd.R_set (Kd.R_drewN HOq.out _) (blk_drewN HXq.out _) (by decide) 3 _) (blk_set (blk_drewN HXq.out _) 3 _) (by decide) 4 _⟩, ⟨by repeat (first | (with_reducible exact HKq.out) | refine blk_drew ?_ | refine blk_drewN ?_ _ | refine blk_far ?_ HNK.out _)⟩⟩
      case rest =>
       clear HBq HTq HZq HXq HFq HOq HKq hh ha0 ha1 ha2 ha3 ha4 ha5 ha6 ha7 ha8 ka0 ka1 kc0 kc1
       obtain ⟨HBq, HTq, HZq, HXq, HFq, HOq, HKq⟩ := hcut
       have hk1 : wc.cell? ⟨wr.heap.size, 1, none⟩ = some (.bool false) := (blk_cell HKq.out 1).trans rfl
       go_wp2_with fail
       have hx0 : wc.cell? ⟨w.heap.size + 1 + 1, 0, none⟩ = some (.int .i64 1) := (blk_cell HXq.out 0).trans rfl
       have hx2 : wc.cell? ⟨w.heap.size + 1 + 1, 2, none⟩ = some (.int .i64 (wrap64 (wrap64 (rd_T73 l0_2 (rd_T50 l1 0).f0).f4 - (rd_T73 l0_2 (rd_T50 l1 0).f0).f3))) := (blk_cell HXq.out 2).trans rfl
       have hff4 : wc.cell? ⟨wr.heap.size + 1, 4, none⟩ = some (.int .i64 (rd_T73 l0_2 (rd_T50 l1 1).f0).f4) := (blk_cell HFq.out 4).trans rfl
       have hff3 : wc.cell? ⟨wr.heap.size + 1, 3, none⟩ = some (.int .i64 (rd_T73 l0_2 (rd_T50 l1 1).f0).f3) := (blk_cell HFq.out 3).trans rfl
       have hf0 := blk_frozen HXq.out 0
       have hf2 := blk_frozen HXq.out 2
       go_cut [58] (fun v58 wx => Aside0 (Below w.heap.size w wx) ∧ Aside0 (wx.heap[w.heap.size]? = some (.cells #[.slice A0_0 n0_0 c0_0, .slice A0_1 n0_1 c0_1, .slice (some ae) l0_2.length c0_2] 32 (0, 0))) ∧ Aside0 (wx.heap[w.heap.size + 1]? = some (.cells #[.int .i64 0, .int .i64 0, .int .i64 0, .int .i64 0, .int .i64 0, .slice none 0 0] 126 (0, 0))) ∧ Aside0 (wx.heap[w.heap.size + 1 + 1]? = some (.cells #[.int .i64 2, .int .i64 0, .int .i64 (wrap64 (wrap64 ((wrap64 (wrap64 (rd_T73 l0_2 (rd_T50 l1 0).f0).f4 - (rd_T73 l0_2 (rd_T50 l1 0).f0).f3)) + (rd_T73 l0_2 (rd_T50 l1 1).f0).f4) - (rd_T73 l0_2 (rd_T50 l1 1).f0).f3)), .int .i64 (wrap64 ((rd_T73 l0_2 (rd_T50 l1 1).f0).f3 - (rd_T73 l0_2 (rd_T50 l1 0).f0).f4)), .int .i64 (wrap64 ((rd_T73 l0_2 (rd_T50 l1 1).f0).f3 - (rd_T73 l0_2 (rd_T50 l1 0).f0).f4)), (.slice Av ([(rd_T73 l0_2 (rd_T50 l1 0).f0).f5] : List ByteArray).length cv)] 126 (0, 0))) ∧ Aside0 (wx.heap[wr.heap.size + 1]? = some (.cells #[.string (rd_T73 l0_2 (rd_T50 l1 1).f0).f0, .string (rd_T73 l0_2 (rd_T50 l1 1).f0).f1, .string (rd_T73 l0_2 (rd_T50 l1 1).f0).f2, .int .i64 (rd_T73 l0_2 (rd_T50 l1 1).f0).f3, .int .i64 (rd_T73 l0_2 (rd_T50 l1 1).f0).f4, .string (rd_T73 l0_2 (rd_T50 l1 1).f0).f5, .int .i64 (rd_T73 l0_2 (rd_T50 l1 1).f0).f6.f0, .int .i64 (rd_T73 l0_2 (rd_T50 l1 1).f0).f6.f1, .int .i64 (rd_T73 l0_2 (rd_T50 l1 1).f0).f6.f2] 73 (0, 0))) ∧ Aside0 (Kd.R Kd.string 9 wx w.heap.size (fun _ => True) (.slice Av ([(rd_T73 l0_2 (rd_T50 l1 0).f0).f5] : List ByteArray).length cv) [(rd_T73 l0_2 (rd_T50 l1 0).f0).f5]))
       case first =>
         go_region
         all_goals (go_wp2_with fail; go_meet)
         all_goals exact ⟨⟨by repeat (first | (with_reducible exact HBq.out) | apply below_alloc | apply pw_below_drewN | apply below_drew1 | refine below_set ?_ HGE.out)⟩, ⟨by repeat (first | (with_reducible exact HTq.out) | refine blk_drew ?_ | refine blk_drewN ?_ _ | refine blk_far ?_ HNT.out _)⟩, ⟨by repeat (first | (with_reducible exact HZq.out) | refine blk_drew ?_ | refine blk_drewN ?_ _ | refine blk_far ?_ HNZ.out _)⟩, ⟨blk_drew (blk_set (blk_set HXq.out 0 _) 2 _)⟩, ⟨by repeat (first | (with_reducible exact HFq.out) | refine blk_drew ?_ | refine blk_drewN ?_ _ | refine blk_far ?_ HNF.out _)⟩, ⟨Kd.R_drew (Kd.R_set (Kd.R_set HOq.out HXq.out (by decide) 0 _) (blk_set HXq.out 0 _) (by decide) 2 _)⟩⟩
       case rest =>
         obtain ⟨HBx, HTx, HZx, HXx, HFx, HOx⟩ := hcut
         have hw5 : wc.cell? ⟨w.heap.size + 1 + 1, 5, none⟩ = some ((.slice Av ([(rd_T73 l0_2 (rd_T50 l1 0).f0).f5] : List ByteArray).length cv)) := (blk_cell HXx.out 5).trans rfl
         have ht5 : wc.cell? ⟨wr.heap.size + 1, 5, none⟩ = some (.string (rd_T73 l0_2 (rd_T50 l1 1).f0).f5) := (blk_cell HFx.out 5).trans rfl
         go_wp2_with (first | (go_at_call 87; (refine (slices_Contains_string_string.calls 100 Av cv [(rd_T73 l0_2 (rd_T50 l1 0).f0).f5] (rd_T73 l0_2 (rd_T50 l1 1).f0).f5 true _ ?q1 ?q2 HC1.out).mono ?_); (case q1 => exact (Kd.R_reads' HOx.out).2.2); (case q2 => exact (Kd.R_reads' HOx.out).2.1); rintro e w4 ⟨rfl, hd⟩; have hb : Below wc.heap.size wc w4 := (by obtain ⟨nd, rfl⟩ := hd; exact pw_below_drewN (Below.refl _ _) _); clear hd; have HB4 := Aside0.mk (below_step HBx.out hb); have HT4 := Aside0.mk (blk_below (g := w.heap.size) (o := (.cells #[.slice A0_0 n0_0 c0_0, .slice A0_1 n0_1 c0_1, .slice (some ae) l0_2.length c0_2] 32 (0, 0))) HTx.out hb); have HZ4 := Aside0.mk (blk_below (g := w.heap.size + 1) (o := (.cells #[.int .i64 0, .int .i64 0, .int .i64 0, .int .i64 0, .int .i64 0, .slice none 0 0] 126 (0, 0))) HZx.out hb); have HX4 := Aside0.mk (blk_below (g := w.heap.size + 1 + 1) (o := (.cells #[.int .i64 2, .int .i64 0, .int .i64 (wrap64 (wrap64 ((wrap64 (wrap64 (rd_T73 l0_2 (rd_T50 l1 0).f0).f4 - (rd_T73 l0_2 (rd_T50 l1 0).f0).f3)) + (rd_T73 l0_2 (rd_T50 l1 1).f0).f4) - (rd_T73 l0_2 (rd_T50 l1 1).f0).f3)), .int .i64 (wrap64 ((rd_T73 l0_2 (rd_T50 l1 1).f0).f3 - (rd_T73 l0_2 (rd_T50 l1 0).f0).f4)), .int .i64 (wrap64 ((rd_T73 l0_2 (rd_T50 l1 1).f0).f3 - (rd_T73 l0_2 (rd_T50 l1 0).f0).f4)), (.slice Av ([(rd_T73 l0_2 (rd_T50 l1 0).f0).f5] : List ByteArray).length cv)] 126 (0, 0))) HXx.out hb); have HO4 := Aside0.mk (Kd.R_below HOx.out hb); clear hb hw5 ht5))
         go_roundw
         case rel => exact ⟨2, 2, _, _, _, _, [(rd_T73 l0_2 (rd_T50 l1 0).f0).f5], rfl, by omega, by omega, ⟨rfl⟩, HB4, HT4, HZ4, HX4, HO4⟩
         case measure => simp [intOf]
    · have hs : ((2 : Int), (wrap64 (wrap64 ((wrap64 (wrap64 (rd_T73 l0_2 (rd_T50 l1 0).f0).f4 - (rd_T73 l0_2 (rd_T50 l1 0).f0).f3)) + (rd_T73 l0_2 (rd_T50 l1 1).f0).f4) - (rd_T73 l0_2 (rd_T50 l1 1).f0).f3)), (wrap64 ((rd_T73 l0_2 (rd_T50 l1 1).f0).f3 - (rd_T73 l0_2 (rd_T50 l1 0).f0).f4)), (wrap64 ((rd_T73 l0_2 (rd_T50 l1 1).f0).f3 - (rd_T73 l0_2 (rd_T50 l1 0).f0).f4)), [(rd_T73 l0_2 (rd_T50 l1 0).f0).f5]) = (lg, bl, lo, sh, ts) := HS.out
      simp only [Prod.mk.injEq] at hs
      obtain ⟨rfl, rfl, rfl, rfl, rfl⟩ := hs
      obtain ⟨Av, cv, ev⟩ := Kd.R_slice HO.out
      subst ev
      have hx0 : wr.cell? ⟨w.heap.size + 1 + 1, 0, none⟩ = some (.int .i64 2) := (blk_cell HX.out 0).trans rfl
      have hz0 : wr.cell? ⟨w.heap.size + 1, 0, none⟩ = some (.int .i64 0) := (blk_cell HZ.out 0).trans rfl
      have hf0 := blk_frozen HZ.out 0
      have hx1 : wr.cell? ⟨w.heap.size + 1 + 1, 1, none⟩ = some (.int .i64 0) := (blk_cell HX.out 1).trans rfl
      have hz1 : wr.cell? ⟨w.heap.size + 1, 1, none⟩ = some (.int .i64 0) := (blk_cell HZ.out 1).trans rfl
      have hf1 := blk_frozen HZ.out 1
      have hx2 : wr.cell? ⟨w.heap.size + 1 + 1, 2, none⟩ = some (.int .i64 (wrap64 (wrap64 ((wrap64 (wrap64 (rd_T73 l0_2 (rd_T50 l1 0).f0).f4 - (rd_T73 l0_2 (rd_T50 l1 0).f0).f3)) + (rd_T73 l0_2 (rd_T50 l1 1).f0).f4) - (rd_T73 l0_2 (rd_T50 l1 1).f0).f3))) := (blk_cell HX.out 2).trans rfl
      have hz2 : wr.cell? ⟨w.heap.size + 1, 2, none⟩ = some (.int .i64 0) := (blk_cell HZ.out 2).trans rfl
      have hf2 := blk_frozen HZ.out 2
      have hx3 : wr.cell? ⟨w.heap.size + 1 + 1, 3, none⟩ = some (.int .i64 (wrap64 ((rd_T73 l0_2 (rd_T50 l1 1).f0).f3 - (rd_T73 l0_2 (rd_T50 l1 0).f0).f4))) := (blk_cell HX.out 3).trans rfl
      have hz3 : wr.cell? ⟨w.heap.size + 1, 3, none⟩ = some (.int .i64 0) := (blk_cell HZ.out 3).trans rfl
      have hf3 := blk_frozen HZ.out 3
      have hx4 : wr.cell? ⟨w.heap.size + 1 + 1, 4, none⟩ = some (.int .i64 (wrap64 ((rd_T73 l0_2 (rd_T50 l1 1).f0).f3 - (rd_T73 l0_2 (rd_T50 l1 0).f0).f4))) := (blk_cell HX.out 4).trans rfl
      have hz4 : wr.cell? ⟨w.heap.size + 1, 4, none⟩ = some (.int .i64 0) := (blk_cell HZ.out 4).trans rfl
      have hf4 := blk_frozen HZ.out 4
      have hx5 : wr.cell? ⟨w.heap.size + 1 + 1, 5, none⟩ = some ((.slice Av ([(rd_T73 l0_2 (rd_T50 l1 0).f0).f5] : List ByteArray).length cv)) := (blk_cell HX.out 5).trans rfl
      have hz5 : wr.cell? ⟨w.heap.size + 1, 5, none⟩ = some (.slice none 0 0) := (blk_cell HZ.out 5).trans rfl
      have hf5 := blk_frozen HZ.out 5
      clear hi0 hi1
      go_wp2_with fail
      refine bodyPost_ret (results_cell_row rfl _ _ (w.heap.size + 1) 126 #[.int .i64 2, .int .i64 0, .int .i64 (wrap64 (wrap64 ((wrap64 (wrap64 (rd_T73 l0_2 (rd_T50 l1 0).f0).f4 - (rd_T73 l0_2 (rd_T50 l1 0).f0).f3)) + (rd_T73 l0_2 (rd_T50 l1 1).f0).f4) - (rd_T73 l0_2 (rd_T50 l1 1).f0).f3)), .int .i64 (wrap64 ((rd_T73 l0_2 (rd_T50 l1 1).f0).f3 - (rd_T73 l0_2 (rd_T50 l1 0).f0).f4)), .int .i64 (wrap64 ((rd_T73 l0_2 (rd_T50 l1 1).f0).f3 - (rd_T73 l0_2 (rd_T50 l1 0).f0).f4)), (.slice Av ([(rd_T73 l0_2 (rd_T50 l1 0).f0).f5] : List ByteArray).length cv)] (0, 0) _ rfl ?g1 Tryz.underlying126 rfl (by kernel_rfl)) rfl ?_
      case g1 => exact (blk_set (blk_set (blk_set (blk_set (blk_set (blk_set HZ.out 0 _) 1 _) 2 _) 3 _) 4 _) 5 _)
      exact ⟨_, rfl, (Kd.R_set (Kd.R_set (Kd.R_set (Kd.R_set (Kd.R_set (Kd.R_set HO.out HZ.out (by decide) 0 _) (blk_set HZ.out 0 _) (by decide) 1 _) (blk_set (blk_set HZ.out 0 _) 1 _) (by decide) 2 _) (blk_set (blk_set (blk_set HZ.out 0 _) 1 _) 2 _) (by decide) 3 _) (blk_set (blk_set (blk_set (blk_set HZ.out 0 _) 1 _) 2 _) 3 _) (by decide) 4 _) (blk_set (blk_set (blk_set (blk_set (blk_set HZ.out 0 _) 1 _) 2 _) 3 _) 4 _) (by decide) 5 _), (below_set (below_set (below_set (below_set (below_set (below_set HB.out (Nat.le_succ _)) (Nat.le_succ _)) (Nat.le_succ _)) (Nat.le_succ _)) (Nat.le_succ _)) (Nat.le_succ _))⟩
def measure_summed.f (l0_0 : List (S83)) (l0_1 : List (S86)) (l0_2 : List (S73)) (l1 : List (S50)) : Option (Int × Int × Int × Int × Int × List ByteArray) := if l1.length = 2 then if (rd_T50 l1 0).f1 = false then if (rd_T50 l1 1).f1 = false then if 0 ≤ (rd_T50 l1 0).f0 then if (rd_T50 l1 0).f0 < (l0_2.length : Int) then if 0 ≤ (rd_T50 l1 1).f0 then if (rd_T50 l1 1).f0 < (l0_2.length : Int) then if 0 < (wrap64 ((rd_T73 l0_2 (rd_T50 l1 1).f0).f3 - (rd_T73 l0_2 (rd_T50 l1 0).f0).f4)) then if (wrap64 ((rd_T73 l0_2 (rd_T50 l1 1).f0).f3 - (rd_T73 l0_2 (rd_T50 l1 0).f0).f4)) < 1440 then if slices_Contains_string_string.f 100 [] (rd_T73 l0_2 (rd_T50 l1 0).f0).f5 = some false then if slices_Contains_string_string.f 100 [(rd_T73 l0_2 (rd_T50 l1 0).f0).f5] (rd_T73 l0_2 (rd_T50 l1 1).f0).f5 = some true then some (2, 0, (wrap64 (wrap64 ((wrap64 (wrap64 (rd_T73 l0_2 (rd_T50 l1 0).f0).f4 - (rd_T73 l0_2 (rd_T50 l1 0).f0).f3)) + (rd_T73 l0_2 (rd_T50 l1 1).f0).f4) - (rd_T73 l0_2 (rd_T50 l1 1).f0).f3)), (wrap64 ((rd_T73 l0_2 (rd_T50 l1 1).f0).f3 - (rd_T73 l0_2 (rd_T50 l1 0).f0).f4)), (wrap64 ((rd_T73 l0_2 (rd_T50 l1 1).f0).f3 - (rd_T73 l0_2 (rd_T50 l1 0).f0).f4)), [(rd_T73 l0_2 (rd_T50 l1 0).f0).f5]) else none else none else none else none else none else none else none else none else none else none else none
theorem measure_summed.calls (A0_0 : Option Addr) (c0_0 : Nat) (l0_0 : List (S83)) (A0_1 : Option Addr) (c0_1 : Nat) (l0_1 : List (S86)) (A0_2 : Option Addr) (c0_2 : Nat) (l0_2 : List (S73)) (A1 : Option Addr) (c1 : Nat) (l1 : List (S50)) (r1 : Int) (r2 : Int) (r3 : Int) (r4 : Int) (r5 : Int) (r6 : List ByteArray) (w : World) (hr0_0 : Kd.C k83 w A0_0 l0_0.length l0_0) (hc0_0 : l0_0.length ≤ c0_0) (hr0_1 : Kd.C k86 w A0_1 l0_1.length l0_1) (hc0_1 : l0_1.length ≤ c0_1) (hr0_2 : Kd.C k73 w A0_2 l0_2.length l0_2) (hc0_2 : l0_2.length ≤ c0_2) (hr1 : Kd.C k50 w A1 l1.length l1) (hc1 : l1.length ≤ c1) (h : measure_summed.f l0_0 l0_1 l0_2 l1 = some (r1, r2, r3, r4, r5, r6)) :
    Calls Tryz.prog 67 #[.agg #[.slice A0_0 l0_0.length c0_0, .slice A0_1 l0_1.length c0_1, .slice A0_2 l0_2.length c0_2], .slice A1 l1.length c1] w fun e w' => ∃ v5_ : Value, e = .returned (.agg #[.int .i64 r1, .int .i64 r2, .int .i64 r3, .int .i64 r4, .int .i64 r5, v5_]) ∧ Kd.R Kd.string 9 w' w.heap.size (fun _ => True) v5_ r6 ∧ Below w.heap.size w w' := by
  unfold measure_summed.f at h
  by_cases q0 : l1.length = 2
  case neg => rw [if_neg q0] at h; cases h
  rw [if_pos q0] at h
  by_cases q1 : (rd_T50 l1 0).f1 = false
  case neg => rw [if_neg q1] at h; cases h
  rw [if_pos q1] at h
  by_cases q2 : (rd_T50 l1 1).f1 = false
  case neg => rw [if_neg q2] at h; cases h
  rw [if_pos q2] at h
  by_cases q3 : 0 ≤ (rd_T50 l1 0).f0
  case neg => rw [if_neg q3] at h; cases h
  rw [if_pos q3] at h
  by_cases q4 : (rd_T50 l1 0).f0 < (l0_2.length : Int)
  case neg => rw [if_neg q4] at h; cases h
  rw [if_pos q4] at h
  by_cases q5 : 0 ≤ (rd_T50 l1 1).f0
  case neg => rw [if_neg q5] at h; cases h
  rw [if_pos q5] at h
  by_cases q6 : (rd_T50 l1 1).f0 < (l0_2.length : Int)
  case neg => rw [if_neg q6] at h; cases h
  rw [if_pos q6] at h
  by_cases q7 : 0 < (wrap64 ((rd_T73 l0_2 (rd_T50 l1 1).f0).f3 - (rd_T73 l0_2 (rd_T50 l1 0).f0).f4))
  case neg => rw [if_neg q7] at h; cases h
  rw [if_pos q7] at h
  by_cases q8 : (wrap64 ((rd_T73 l0_2 (rd_T50 l1 1).f0).f3 - (rd_T73 l0_2 (rd_T50 l1 0).f0).f4)) < 1440
  case neg => rw [if_neg q8] at h; cases h
  rw [if_pos q8] at h
  by_cases q9 : slices_Contains_string_string.f 100 [] (rd_T73 l0_2 (rd_T50 l1 0).f0).f5 = some false
  case neg => rw [if_neg q9] at h; cases h
  rw [if_pos q9] at h
  by_cases q10 : slices_Contains_string_string.f 100 [(rd_T73 l0_2 (rd_T50 l1 0).f0).f5] (rd_T73 l0_2 (rd_T50 l1 1).f0).f5 = some true
  case neg => rw [if_neg q10] at h; cases h
  rw [if_pos q10] at h
  simp only [Option.some.injEq, Prod.mk.injEq] at h
  obtain ⟨rfl, rfl, rfl, rfl, rfl, rfl⟩ := h
  obtain ⟨ad, ea, -⟩ := at_T50 hr1 0 (by omega) (by omega)
  obtain ⟨ae, eb, -⟩ := at_T73 hr0_2 _ q3 q4
  subst ea
  subst eb
  have hw := sum67 A0_0 l0_0.length c0_0 A0_1 l0_1.length c0_1 ad ae c0_2 l0_2 c1 l1 w hr0_2 hr1 q0 q1 q2 ⟨q3, q4⟩ ⟨q5, q6⟩ q7 q8 q9 q10
  rw [show Value.slice (some ad) 2 c1 = Value.slice (some ad) l1.length c1 by rw [q0]] at hw
  exact hw
end Go.Proofs.YtilnppdognejbaaGreatDoor.P
namespace Go.Proofs.YtilnppdognejbaaGreatDoor.P
open Go.RowKit Go.Proofs.YtilnppdognejbaaGreatDoorW.PrintWords Go.Proofs.YtilnppdognejbaaGreatDoorW.PrintLast Go.Proofs.YtilnppdognejbaaGreatDoorW.PrintMore
attribute [local go_sem] max2_int min2_int max_two min_two max_three min_three max_four min_four   -- for this text's walks alone
set_option linter.unusedVariables false
set_option linter.unusedSimpArgs false
set_option maxHeartbeats 8000000 in
set_option maxRecDepth 100000 in
theorem zoneOf68 (az : Addr) (c0_0 : Nat) (l0_0 : List S83) (aa : Addr) (c0_1 : Nat) (l0_1 : List S86) (A0_2 : Option Addr) (c0_2 : Nat) (l0_2 : List S73) (a1 : ByteArray) (ai zi : Int) (w : World)
    (hr0 : Kd.C k83 w (some az) l0_0.length l0_0) (hc0 : l0_0.length ≤ c0_0) (hr1 : Kd.C k86 w (some aa) l0_1.length l0_1) (hc1 : l0_1.length ≤ c0_1) (hr2 : Kd.C k73 w A0_2 l0_2.length l0_2) (hc2 : l0_2.length ≤ c0_2)
    (hv : timetable_Validate.f 100 l0_0 l0_1 l0_2 = some 0) (ha : timetable_airportIndex.f 100 l0_1 a1 = some ai) (i0 : 0 ≤ ai) (i1 : ai < (l0_1.length : Int)) (hz : timetable_zoneIndex.f 100 l0_0 (rd_T86 l0_1 ai).f1 = some zi) (z0 : 0 ≤ zi) (z1 : zi < (l0_0.length : Int)) (hs : (rd_T83 l0_0 zi).f2.length ≤ 1000) :
    Calls Tryz.prog 68 #[.agg #[.slice (some az) l0_0.length c0_0, .slice (some aa) l0_1.length c0_1, .slice A0_2 l0_2.length c0_2], .string a1] w fun e w' => ∃ v : Value, e = .returned (.tuple #[.agg #[.string (rd_T83 l0_0 zi).f0, .int .i64 (rd_T83 l0_0 zi).f1, v], .int .i64 0]) ∧ Kd.R k120 120 w' w.heap.size (fun _ => True) v (rd_T83 l0_0 zi).f2 ∧ Below w.heap.size w w' := by
  have hu1 := Tryz.underlying83
  have hu2 := Tryz.underlying86
  have hu3 := Tryz.underlying32
  have HB := Aside0.mk (Below.refl w.heap.size w)
  have HR0 := Aside0.mk hr0
  have HR1 := Aside0.mk hr1
  have HR2 := Aside0.mk hr2
  have HC0 := Aside0.mk hc0
  have HC1 := Aside0.mk hc1
  have HC2 := Aside0.mk hc2
  have HV := Aside0.mk hv
  have HA := Aside0.mk ha
  have HZ := Aside0.mk hz
  have HS := Aside0.mk hs
  have HI := Aside0.mk (And.intro i0 i1)
  have HJ := Aside0.mk (And.intro z0 z1)
  have n0 : decide (ai < 0) = false := decide_eq_false (by omega)
  clear hr0 hr1 hr2 hc0 hc1 hc2 hv ha hz hs i0 i1 z0 z1
  go_enter Tryz.func68, Tryz.ntmps68
  go_wp2_with (first
    | (go_at_call 51; (refine (timetable_Validate.calls 100 (some az) c0_0 l0_0 (some aa) c0_1 l0_1 A0_2 c0_2 l0_2 0 _ ?h1 HC0.out ?h2 HC1.out ?h3 HC2.out HV.out).mono ?_); (case h1 => exact Kd.C_below HR0.out (by repeat (first | exact HB.out | apply below_alloc | apply pw_below_drewN | apply below_drew1))); (case h2 => exact Kd.C_below HR1.out (by repeat (first | exact HB.out | apply below_alloc | apply pw_below_drewN | apply below_drew1))); (case h3 => exact Kd.C_below HR2.out (by repeat (first | exact HB.out | apply below_alloc | apply pw_below_drewN | apply below_drew1))); rintro e w1 ⟨rfl, hb⟩; have hB1 : Below w.heap.size w w1 := below_step (by repeat (first | exact HB.out | apply below_alloc | apply pw_below_drewN | apply below_drew1)) hb; have HT1 := Aside0.mk (blk_below (g := w.heap.size) (o := (.cells #[.slice (some az) l0_0.length c0_0, .slice (some aa) l0_1.length c0_1, .slice A0_2 l0_2.length c0_2] 32 (0, 0))) (blk_alloc (heap_alloc_new w (.cells #[.slice (some az) l0_0.length c0_0, .slice (some aa) l0_1.length c0_1, .slice A0_2 l0_2.length c0_2] 32)) (.cells #[.string ⟨#[]⟩, .int .i64 0, .slice none 0 0] 83)) hb); have HZ1 := Aside0.mk (blk_below (g := w.heap.size + 1) (o := (.cells #[.string ⟨#[]⟩, .int .i64 0, .slice none 0 0] 83 (0, 0))) (by simpa using heap_alloc_new (w.alloc (.cells #[.slice (some az) l0_0.length c0_0, .slice (some aa) l0_1.length c0_1, .slice A0_2 l0_2.length c0_2] 32)) (.cells #[.string ⟨#[]⟩, .int .i64 0, .slice none 0 0] 83)) hb); have HB1 := Aside0.mk hB1; have hz1 : w1.cell? ⟨w.heap.size, 1, none⟩ = some (.slice (some aa) l0_1.length c0_1) := (blk_cell HT1.out 1).trans rfl; clear hb hB1)
    | (go_at_call 88; (refine (timetable_airportIndex.calls 100 (some aa) c0_1 l0_1 a1 ai _ ?h4 HC1.out HA.out).mono ?_); (case h4 => exact Kd.C_below HR1.out HB1.out); rintro e w2 ⟨rfl, hb⟩; have HB2 := Aside0.mk (below_step HB1.out hb); have HT2 := Aside0.mk (blk_below (g := w.heap.size) (o := (.cells #[.slice (some az) l0_0.length c0_0, .slice (some aa) l0_1.length c0_1, .slice A0_2 l0_2.length c0_2] 32 (0, 0))) HT1.out hb); have HZ2 := Aside0.mk (blk_below (g := w.heap.size + 1) (o := (.cells #[.string ⟨#[]⟩, .int .i64 0, .slice none 0 0] 83 (0, 0))) HZ1.out hb); clear hb))
  obtain ⟨b, e, hA0, hA1⟩ := at_T86 (Kd.C_below HR1.out HB2.out) ai HI.out.1 HI.out.2
  obtain rfl := Option.some.inj e
  obtain ⟨b, As, cs, e, hb0, hb1, hb2, hb3, hb4⟩ := at_T83 (Kd.C_below HR0.out HB2.out) zi HJ.out.1 HJ.out.2
  obtain rfl := Option.some.inj e
  have hh0 : w2.cell? ⟨w.heap.size, 0, none⟩ = some (.slice (some az) l0_0.length c0_0) := (blk_cell HT2.out 0).trans rfl
  have hh1 : w2.cell? ⟨w.heap.size, 1, none⟩ = some (.slice (some aa) l0_1.length c0_1) := (blk_cell HT2.out 1).trans rfl
  have keepS : ∀ W : World, Below w2.heap.size w2 W → Below w2.heap.size w2 W ∧ W.cell? ⟨w.heap.size, 0, none⟩ = some (.slice (some az) l0_0.length c0_0) ∧ W.cell? ⟨w.heap.size, 1, none⟩ = some (.slice (some aa) l0_1.length c0_1) ∧ W.cell? ⟨(aa.add (ai.toNat * 2)).block, (aa.add (ai.toNat * 2)).off + 1, none⟩ = some (.string (rd_T86 l0_1 ai).f1) ∧ W.cell? (az.add (zi.toNat * 3)) = some (.string (rd_T83 l0_0 zi).f0) ∧ W.cell? ⟨(az.add (zi.toNat * 3)).block, (az.add (zi.toNat * 3)).off + 1, none⟩ = some (.int .i64 (rd_T83 l0_0 zi).f1) ∧ W.cell? ⟨(az.add (zi.toNat * 3)).block, (az.add (zi.toNat * 3)).off + 2, none⟩ = some (.slice As (rd_T83 l0_0 zi).f2.length cs) := fun W hk => ⟨hk, (hk.cell (World.block_lt_of_cell? w2 _ hh0)).trans hh0, (hk.cell (World.block_lt_of_cell? w2 _ hh1)).trans hh1, (hk.cell (World.block_lt_of_cell? w2 _ hA1)).trans hA1, (hk.cell (World.block_lt_of_cell? w2 _ hb0)).trans hb0, (hk.cell (World.block_lt_of_cell? w2 _ hb1)).trans hb1, (hk.cell (World.block_lt_of_cell? w2 _ hb2)).trans hb2⟩
  have HK := Aside0.mk keepS
  have H4 := Aside0.mk (And.intro hb3 hb4)
  have HR0w := Aside0.mk (Kd.C_below HR0.out HB2.out)
  have p0 := eq_true HI.out.1
  have q0 := eq_true HI.out.2
  have p1 := eq_true HJ.out.1
  have q1 := eq_true HJ.out.2
  have hrf := Below.refl w2.heap.size w2
  clear keepS hb3 hb4 hA0 hA1 hb0 hb1 hb2 hh0 hh1
  go_cut [8] (fun v8 wx => ∃ g : Nat, v8 = .pointer (some ⟨g, 0, none⟩) ∧ Aside0 (wx.heap[g]? = some (.cells #[.string (rd_T83 l0_0 zi).f0, .int .i64 (rd_T83 l0_0 zi).f1, .slice As (rd_T83 l0_0 zi).f2.length cs] 83 (0, 0))) ∧ Aside0 (Below w2.heap.size w2 wx) ∧ Aside0 (w2.heap.size ≤ g))
  case first =>
   go_region_held3 (fun w' => Below w2.heap.size w2 w' ∧ w'.cell? ⟨w.heap.size, 0, none⟩ = some (.slice (some az) l0_0.length c0_0) ∧ w'.cell? ⟨w.heap.size, 1, none⟩ = some (.slice (some aa) l0_1.length c0_1) ∧ w'.cell? ⟨(aa.add (ai.toNat * 2)).block, (aa.add (ai.toNat * 2)).off + 1, none⟩ = some (.string (rd_T86 l0_1 ai).f1) ∧ w'.cell? (az.add (zi.toNat * 3)) = some (.string (rd_T83 l0_0 zi).f0) ∧ w'.cell? ⟨(az.add (zi.toNat * 3)).block, (az.add (zi.toNat * 3)).off + 1, none⟩ = some (.int .i64 (rd_T83 l0_0 zi).f1) ∧ w'.cell? ⟨(az.add (zi.toNat * 3)).block, (az.add (zi.toNat * 3)).off + 2, none⟩ = some (.slice As (rd_T83 l0_0 zi).f2.length cs)) ((apply HK.out; repeat (first | assumption | apply below_alloc | apply below_drew1 | apply pw_below_drewN | refine below_set ?_ (Nat.le_refl _)))) (first | (go_at_call 73; (refine (timetable_zoneIndex.calls 100 (some az) c0_0 l0_0 (rd_T86 l0_1 ai).f1 zi _ ?h5 HC0.out HZ.out).mono ?_); (case h5 => refine Kd.C_below HR0w.out ?_; repeat (first | assumption | apply below_alloc | apply below_drew1 | apply pw_below_drewN)); rintro e w3 ⟨rfl, hb⟩; have hB3 : Below w2.heap.size w2 w3 := below_step (by repeat (first | assumption | apply below_alloc | apply below_drew1 | apply pw_below_drewN)) hb; (try (have hBK := blk_below (g := w2.heap.size) (o := (.cells #[.string ⟨#[]⟩, .int .i64 0, .slice none 0 0] 83 (0, 0))) (by (with_reducible repeat (first | refine blk_drewN ?_ _ | refine blk_drew ?_)); exact heap_alloc_new w2 (.cells #[.string ⟨#[]⟩, .int .i64 0, .slice none 0 0] 83)) hb; have cq0 : w3.cell? ⟨w2.heap.size, 0, none⟩ = some (.string ⟨#[]⟩) := (blk_cell hBK 0).trans rfl; have cq1 : w3.cell? ⟨w2.heap.size, 1, none⟩ = some (.int .i64 0) := (blk_cell hBK 1).trans rfl; have cq2 : w3.cell? ⟨w2.heap.size, 2, none⟩ = some (.slice none 0 0) := (blk_cell hBK 2).trans rfl; have fq0 := blk_frozen hBK 0; have fq1 := blk_frozen hBK 1; have fq2 := blk_frozen hBK 2))))
   all_goals (go_wp2_with fail; go_meet)
   · exact ⟨w3.heap.size, rfl, ⟨heap_alloc_new w3 _⟩, ⟨below_alloc hB3 _⟩, ⟨hB3.size⟩⟩
   · exact ⟨w2.heap.size, rfl, ⟨blk_set (blk_set (blk_set hBK 0 _) 1 _) 2 _⟩, ⟨below_set (below_set (below_set hB3 (Nat.le_refl _)) (Nat.le_refl _)) (Nat.le_refl _)⟩, ⟨Nat.le_refl _⟩⟩
  case rest =>
   obtain ⟨g, rfl, HG, HBg, HGe⟩ := hcut
   have HB5 := Aside0.mk (below_step HB2.out HBg.out)
   have HZ5 := Aside0.mk (blk_below (g := w.heap.size + 1) (o := (.cells #[.string ⟨#[]⟩, .int .i64 0, .slice none 0 0] 83 (0, 0))) HZ2.out HBg.out)
   have hlt := blk_lt HZ2.out
   have HNE : Aside0 (w.heap.size + 1 ≠ g) := ⟨by have := HGe.out; omega⟩
   have H4c := Aside0.mk (And.intro H4.out.1 (Kd.C_below H4.out.2 HBg.out))
   have hg2 : wc.cell? ⟨g, 2, none⟩ = some (.slice As (rd_T83 l0_0 zi).f2.length cs) := (blk_cell HG.out 2).trans rfl
   clear hlt
   go_wp2_with (first | ((with_reducible refine gate_builtin (b := .append) (xs := #[.const (.slice none 0 0), .tmp 36]) rfl ?_); at_builtin; refine Kd.R_append_rows k120 (w0 := w) w.heap.size rfl (.const (.slice none 0 0)) (.tmp 36) 81 120 (.agg #[.int .i64 0, .int .i64 0]) 16 rfl Tryz.underlying81 (show (Tryz.prog.info? 120).map (fun i => (i.zero, i.size, i.bytes)) = some (some (.agg #[.int .i64 0, .int .i64 0]), 2, 16) by kernel_rfl) rfl (by decide) (by decide) (.slice none 0 0) ([] : List S120) (rd_T83 l0_0 zi).f2 As (rd_T83 l0_0 zi).f2.length cs (fun _ => True) (fun _ => False) rfl rfl (Kd.R_nil _ _ _ _ _) H4c.out.2 ?aK (fun _ hk => hk.elim) (fun _ _ => trivial) HB5.out HB5.out.size (by have := HS.out; simp; omega) ?_; (case aK => exact fun x cq hq => by rw [k120_open hq]; exact k120_mkM _ _ _ x); intro v1 w5 ho hb hgr hat; rw [List.nil_append] at ho; obtain ⟨A5, c5, e5⟩ := Kd.R_slice ho; subst e5; have hG5 := blk_grown HG.out hgr (by simp [Value.ownBlock]); have hZ5 := blk_grown HZ5.out hgr (by simp [Value.ownBlock]); have hG6 := blk_set hG5 2 (.slice A5 (rd_T83 l0_0 zi).f2.length c5); have hZ6 := blk_far (p := ⟨g, 2, none⟩) hZ5 HNE.out (.slice A5 (rd_T83 l0_0 zi).f2.length c5); have gz0 : w5.cell? ⟨g, 2, none⟩ = some (.slice As (rd_T83 l0_0 zi).f2.length cs) := (blk_cell hG5 2).trans rfl; have gf0 := blk_frozen hG5 2; have gs0 : (w5.setCell ⟨g, 2, none⟩ (.slice A5 (rd_T83 l0_0 zi).f2.length c5)).cell? ⟨g, 0, none⟩ = some (.string (rd_T83 l0_0 zi).f0) := (blk_cell hG6 0).trans rfl; have gs1 : (w5.setCell ⟨g, 2, none⟩ (.slice A5 (rd_T83 l0_0 zi).f2.length c5)).cell? ⟨g, 1, none⟩ = some (.int .i64 (rd_T83 l0_0 zi).f1) := (blk_cell hG6 1).trans rfl; have gs2 : (w5.setCell ⟨g, 2, none⟩ (.slice A5 (rd_T83 l0_0 zi).f2.length c5)).cell? ⟨g, 2, none⟩ = some (.slice A5 (rd_T83 l0_0 zi).f2.length c5) := (blk_cell hG6 2).trans rfl; have gq0 : (w5.setCell ⟨g, 2, none⟩ (.slice A5 (rd_T83 l0_0 zi).f2.length c5)).cell? ⟨w.heap.size + 1, 0, none⟩ = some (.string ⟨#[]⟩) := (blk_cell hZ6 0).trans rfl; have gq1 : (w5.setCell ⟨g, 2, none⟩ (.slice A5 (rd_T83 l0_0 zi).f2.length c5)).cell? ⟨w.heap.size + 1, 1, none⟩ = some (.int .i64 0) := (blk_cell hZ6 1).trans rfl; have gq2 : (w5.setCell ⟨g, 2, none⟩ (.slice A5 (rd_T83 l0_0 zi).f2.length c5)).cell? ⟨w.heap.size + 1, 2, none⟩ = some (.slice none 0 0) := (blk_cell hZ6 2).trans rfl; have gr0 := blk_frozen hZ6 0; have gr1 := blk_frozen hZ6 1; have gr2 := blk_frozen hZ6 2; have HO := Aside0.mk ho; have HB6 := Aside0.mk hb; have HG5 := Aside0.mk hG5; have HZ6 := Aside0.mk hZ6; clear ho hb hgr hat hG5 hZ5 hG6 hZ6 hg2))
   go_wp2_with fail
   refine bodyPost_ret (results_ct rfl _ _ (w.heap.size + 1) 83 #[.string (rd_T83 l0_0 zi).f0, .int .i64 (rd_T83 l0_0 zi).f1, (.slice A5 (rd_T83 l0_0 zi).f2.length c5)] (0, 0) _ rfl ?g1 Tryz.underlying83 rfl (by kernel_rfl)) rfl ?_
   case g1 => exact blk_set (blk_set (blk_set HZ6.out 0 _) 1 _) 2 _
   have R1 := Kd.R_set HO.out HG5.out (by decide) 2 (.slice A5 (rd_T83 l0_0 zi).f2.length c5)
   have R2 := Kd.R_set R1 HZ6.out (by decide) 0 (.string (rd_T83 l0_0 zi).f0)
   have R3 := Kd.R_set R2 (blk_set HZ6.out 0 _) (by decide) 1 (.int .i64 (rd_T83 l0_0 zi).f1)
   have R4 := Kd.R_set R3 (blk_set (blk_set HZ6.out 0 _) 1 _) (by decide) 2 (.slice A5 (rd_T83 l0_0 zi).f2.length c5)
   have hg0 : w.heap.size ≤ g := by have := HGe.out; have := HB2.out.size; omega
   exact ⟨(.slice A5 (rd_T83 l0_0 zi).f2.length c5), rfl, R4, below_set (below_set (below_set (below_set HB6.out hg0) (Nat.le_succ _)) (Nat.le_succ _)) (Nat.le_succ _)⟩
def zoneF (l0_0 : List S83) (l0_1 : List S86) (l0_2 : List S73) (a1 : ByteArray) : Option (ByteArray × Int × (List (S120)) × Int) :=
  if timetable_Validate.f 100 l0_0 l0_1 l0_2 = some 0 then
    (timetable_airportIndex.f 100 l0_1 a1).bind fun ai => if 0 ≤ ai then if ai < (l0_1.length : Int) then
      (timetable_zoneIndex.f 100 l0_0 (rd_T86 l0_1 ai).f1).bind fun zi => if 0 ≤ zi then if zi < (l0_0.length : Int) then if (rd_T83 l0_0 zi).f2.length ≤ 1000 then some ((rd_T83 l0_0 zi).f0, (rd_T83 l0_0 zi).f1, (rd_T83 l0_0 zi).f2, 0) else none else none else none
    else none else none else none
def timetable_ZoneOf.f (l0_0 : List (S83)) (l0_1 : List (S86)) (l0_2 : List (S73)) (a1 : ByteArray) : Option (ByteArray × Int × (List (S120)) × Int) := zoneF l0_0 l0_1 l0_2 a1
theorem timetable_ZoneOf.calls (A0_0 : Option Addr) (c0_0 : Nat) (l0_0 : List (S83)) (A0_1 : Option Addr) (c0_1 : Nat) (l0_1 : List (S86)) (A0_2 : Option Addr) (c0_2 : Nat) (l0_2 : List (S73)) (a1 : ByteArray) (r1 : ByteArray) (r2 : Int) (r3 : List (S120)) (r4 : Int) (w : World) (hr0_0 : Kd.C k83 w A0_0 l0_0.length l0_0) (hc0_0 : l0_0.length ≤ c0_0) (hr0_1 : Kd.C k86 w A0_1 l0_1.length l0_1) (hc0_1 : l0_1.length ≤ c0_1) (hr0_2 : Kd.C k73 w A0_2 l0_2.length l0_2) (hc0_2 : l0_2.length ≤ c0_2) (h : timetable_ZoneOf.f l0_0 l0_1 l0_2 a1 = some (r1, r2, r3, r4)) :
    Calls Tryz.prog 68 #[.agg #[.slice A0_0 l0_0.length c0_0, .slice A0_1 l0_1.length c0_1, .slice A0_2 l0_2.length c0_2], .string a1] w fun e w' => ∃ v2_ : Value, e = .returned (.tuple #[.agg #[.string r1, .int .i64 r2, v2_], .int .i64 r4]) ∧ Kd.R k120 120 w' w.heap.size (fun _ => True) v2_ r3 ∧ Below w.heap.size w w' := by
  unfold timetable_ZoneOf.f zoneF at h
  by_cases q0 : timetable_Validate.f 100 l0_0 l0_1 l0_2 = some 0
  case neg => rw [if_neg q0] at h; cases h
  rw [if_pos q0] at h
  obtain ⟨ai, q1, h⟩ := Option.bind_eq_some_iff.mp h
  by_cases q2 : 0 ≤ ai
  case neg => rw [if_neg q2] at h; cases h
  by_cases q3 : ai < (l0_1.length : Int)
  case neg => rw [if_pos q2, if_neg q3] at h; cases h
  rw [if_pos q2, if_pos q3] at h
  obtain ⟨zi, q4, h⟩ := Option.bind_eq_some_iff.mp h
  by_cases q5 : 0 ≤ zi
  case neg => rw [if_neg q5] at h; cases h
  by_cases q6 : zi < (l0_0.length : Int)
  case neg => rw [if_pos q5, if_neg q6] at h; cases h
  by_cases q7 : (rd_T83 l0_0 zi).f2.length ≤ 1000
  case neg => rw [if_pos q5, if_pos q6, if_neg q7] at h; cases h
  rw [if_pos q5, if_pos q6, if_pos q7] at h
  simp only [Option.some.injEq, Prod.mk.injEq] at h
  obtain ⟨rfl, rfl, rfl, rfl⟩ := h
  obtain ⟨aa, ea, -⟩ := at_T86 hr0_1 ai q2 q3
  obtain ⟨az, -, -, eb, -⟩ := at_T83 hr0_0 zi q5 q6
  subst ea
  subst eb
  exact zoneOf68 _ _ _ _ _ _ _ _ _ _ _ _ _ hr0_0 hc0_0 hr0_1 hc0_1 hr0_2 hc0_2 q0 q1 q2 q3 q4 q5 q6 q7
end Go.Proofs.YtilnppdognejbaaGreatDoor.P
namespace Go.Proofs.YtilnppdognejbaaGreatDoor.P
open Go.RowKit Go.Proofs.YtilnppdognejbaaGreatDoorW.PrintWords Go.Proofs.YtilnppdognejbaaGreatDoorW.PrintLast Go.Proofs.YtilnppdognejbaaGreatDoorW.PrintMore
attribute [local go_sem] max2_int min2_int max_two min_two max_three min_three max_four min_four   -- for this text's walks alone
set_option linter.unusedVariables false
set_option linter.unusedSimpArgs false
def calendar_SplitMinute.f (a0 : Int) : Option (Int × Int) := if (Int.tmod a0 1440) < 0 then (some (wrap64 ((wrap64 (Int.tdiv a0 1440)) - 1), wrap64 ((Int.tmod a0 1440) + 1440))) else (some (wrap64 (Int.tdiv a0 1440), Int.tmod a0 1440))
set_option maxHeartbeats 8000000 in
set_option maxRecDepth 100000 in
theorem calendar_SplitMinute.calls (a0 : Int) (r1 : Int) (r2 : Int) (w : World) (h : calendar_SplitMinute.f a0 = some (r1, r2)) :
  Calls Tryz.prog 71 #[.int .i64 a0] w fun e w' => e = .returned (.tuple #[.int .i64 r1, .int .i64 r2]) ∧ Drawn0 w w' := by
 have H : (if (Int.tmod a0 1440) < 0 then (some (wrap64 ((wrap64 (Int.tdiv a0 1440)) - 1), wrap64 ((Int.tmod a0 1440) + 1440))) else (some (wrap64 (Int.tdiv a0 1440), Int.tmod a0 1440))) = some (r1, r2) := h
 clear h
 by_cases c2 : (Int.tmod a0 1440) < 0
 ·rw [if_pos c2] at H
  have c2b0 : decide ((Int.tmod a0 1440) < 0) = true := decide_eq_true c2
  clear c2
  simp only [Option.some.injEq, Prod.mk.injEq] at H
  obtain ⟨rfl, rfl⟩ := H
  go_enter Tryz.func71, Tryz.ntmps71
  go_wp2
  go_ret2
  exact ⟨by first | rfl | (simp; done) | (simp [*]; done), by repeat (first | exact Drawn0.refl _ | apply Drawn0.step)⟩
 ·rw [if_neg c2] at H
  have c2b0 : decide ((Int.tmod a0 1440) < 0) = false := decide_eq_false c2
  clear c2
  simp only [Option.some.injEq, Prod.mk.injEq] at H
  obtain ⟨rfl, rfl⟩ := H
  go_enter Tryz.func71, Tryz.ntmps71
  go_wp2
  go_ret2
  exact ⟨by first | rfl | (simp; done) | (simp [*]; done), by repeat (first | exact Drawn0.refl _ | apply Drawn0.step)⟩
end Go.Proofs.YtilnppdognejbaaGreatDoor.P
namespace Go.Proofs.YtilnppdognejbaaGreatDoor.P
open Go.RowKit Go.Proofs.YtilnppdognejbaaGreatDoorW.PrintWords Go.Proofs.YtilnppdognejbaaGreatDoorW.PrintLast Go.Proofs.YtilnppdognejbaaGreatDoorW.PrintMore
attribute [local go_sem] max2_int min2_int max_two min_two max_three min_three max_four min_four   -- for this text's walks alone
set_option linter.unusedVariables false
set_option linter.unusedSimpArgs false
def zone_spanOK.f (a0_0 : Int) (a0_1 : Int) : Option (Bool) := if a0_0 ≥ 0 then (if a0_0 ≤ a0_1 then (some (decide (a0_1 ≤ 52596000))) else (some false)) else (some false)
set_option maxHeartbeats 8000000 in
set_option maxRecDepth 100000 in
theorem zone_spanOK.calls (a0_0 : Int) (a0_1 : Int) (r : Bool) (w : World) (h : zone_spanOK.f a0_0 a0_1 = some r) :
  Calls Tryz.prog 111 #[.agg #[.int .i64 a0_0, .int .i64 a0_1]] w fun e w' => e = .returned (.bool r) ∧ Below w.heap.size w w' := by
 have hu114 := Tryz.underlying114
 have HB := Aside0.mk (Below.refl w.heap.size w)
 have H : (if a0_0 ≥ 0 then (if a0_0 ≤ a0_1 then (some (decide (a0_1 ≤ 52596000))) else (some false)) else (some false)) = some r := h
 clear h
 by_cases c2 : a0_0 ≥ 0
 ·rw [if_pos c2] at H
  have c2b0 : decide (0 ≤ a0_0) = true := decide_eq_true c2
  clear c2
  by_cases c3 : a0_0 ≤ a0_1
  ·rw [if_pos c3] at H
   have c3b0 : decide (a0_0 ≤ a0_1) = true := decide_eq_true c3
   clear c3
   obtain rfl := Option.some.inj H
   go_enter Tryz.func111, Tryz.ntmps111
   go_wp2_with (first | ((with_reducible refine gate_dst (N := 1) rfl ?_); refine box_event ?hg (N := 1) ?hd (cs := #[.int .i64 a0_0, .int .i64 a0_1]) (t := 114) ?hr ?_; (case hd => rfl); (case hg => rfl); (case hr => first | (go_simp; done) | (go_simp; rfl)); intro gb206 hg w4 hbox hb; have BK206 := Aside0.mk hbox; have GE206 := Aside0.mk ((by rw [hg]; exact (below_size hbk) : w.heap.size ≤ gb206)); replace HB := Aside0.mk (below_step hbk hb); clear hb hbox hg; obtain ⟨hcz5_0, hcz5_1⟩ := blk_cs2 BK206.out; obtain ⟨hfz5_0, hfz5_1⟩ := blk_fs2 BK206.out))
   go_ret
   exact ⟨hrf, hbk⟩
  ·rw [if_neg c3] at H
   have c3b0 : decide (a0_0 ≤ a0_1) = false := decide_eq_false c3
   clear c3
   obtain rfl := Option.some.inj H
   go_enter Tryz.func111, Tryz.ntmps111
   go_wp2_with (first | ((with_reducible refine gate_dst (N := 1) rfl ?_); refine box_event ?hg (N := 1) ?hd (cs := #[.int .i64 a0_0, .int .i64 a0_1]) (t := 114) ?hr ?_; (case hd => rfl); (case hg => rfl); (case hr => first | (go_simp; done) | (go_simp; rfl)); intro gb206 hg w6 hbox hb; have BK206 := Aside0.mk hbox; have GE206 := Aside0.mk ((by rw [hg]; exact (below_size hbk) : w.heap.size ≤ gb206)); replace HB := Aside0.mk (below_step hbk hb); clear hb hbox hg; obtain ⟨hcz7_0, hcz7_1⟩ := blk_cs2 BK206.out; obtain ⟨hfz7_0, hfz7_1⟩ := blk_fs2 BK206.out))
   go_ret
   exact ⟨hrf, hbk⟩
 ·rw [if_neg c2] at H
  have c2b0 : decide (0 ≤ a0_0) = false := decide_eq_false c2
  clear c2
  obtain rfl := Option.some.inj H
  go_enter Tryz.func111, Tryz.ntmps111
  go_wp2_with (first | ((with_reducible refine gate_dst (N := 1) rfl ?_); refine box_event ?hg (N := 1) ?hd (cs := #[.int .i64 a0_0, .int .i64 a0_1]) (t := 114) ?hr ?_; (case hd => rfl); (case hg => rfl); (case hr => first | (go_simp; done) | (go_simp; rfl)); intro gb206 hg w8 hbox hb; have BK206 := Aside0.mk hbox; have GE206 := Aside0.mk ((by rw [hg]; exact (below_size hbk) : w.heap.size ≤ gb206)); replace HB := Aside0.mk (below_step hbk hb); clear hb hbox hg; obtain ⟨hcz9_0, hcz9_1⟩ := blk_cs2 BK206.out; obtain ⟨hfz9_0, hfz9_1⟩ := blk_fs2 BK206.out))
  go_ret
  exact ⟨hrf, hbk⟩
end Go.Proofs.YtilnppdognejbaaGreatDoor.P
namespace Go.Proofs.YtilnppdognejbaaGreatDoor.P
open Go.RowKit Go.Proofs.YtilnppdognejbaaGreatDoorW.PrintWords Go.Proofs.YtilnppdognejbaaGreatDoorW.PrintLast Go.Proofs.YtilnppdognejbaaGreatDoorW.PrintMore
attribute [local go_sem] max2_int min2_int max_two min_two max_three min_three max_four min_four   -- for this text's walks alone
set_option linter.unusedVariables false
set_option linter.unusedSimpArgs false
def zone_bandCheck.f (k : Nat) (a0_0 : ByteArray) (a0_1 : Int) (l0_2 : List (S120)) (a1_0 : Int) (a1_1 : Int) (a2 : Int) (a3 : Int) : Option (Int) := (zone_Validate.f k a0_0 a0_1 l0_2).bind fun t209 => (if t209 = 0 then ((zone_spanOK.f a1_0 a1_1).bind fun t210 => (if t210 = true then (if a2 < 0 then (some 5) else (if a2 ≥ 1440 then (some 5) else (if a3 < 0 then (some 5) else (if a3 ≥ 1440 then (some 5) else (some 0))))) else (some 5))) else (some t209))
set_option maxHeartbeats 8000000 in
set_option maxRecDepth 100000 in
theorem zone_bandCheck.calls (k : Nat) (a0_0 : ByteArray) (a0_1 : Int) (A0_2 : Option Addr) (c0_2 : Nat) (l0_2 : List (S120)) (a1_0 : Int) (a1_1 : Int) (a2 : Int) (a3 : Int) (r : Int) (w : World) (hr0_2 : Kd.C k120 w A0_2 l0_2.length l0_2) (hc0_2 : l0_2.length ≤ c0_2) (h : zone_bandCheck.f k a0_0 a0_1 l0_2 a1_0 a1_1 a2 a3 = some r) :
  Calls Tryz.prog 89 #[.agg #[.string a0_0, .int .i64 a0_1, .slice A0_2 l0_2.length c0_2], .agg #[.int .i64 a1_0, .int .i64 a1_1], .int .i64 a2, .int .i64 a3] w fun e w' => e = .returned (.int .i64 r) ∧ Below w.heap.size w w' := by
 have hu83 := Tryz.underlying83
 have hu114 := Tryz.underlying114
 have HR0_2 := Aside0.mk hr0_2
 have HC0_2 := Aside0.mk hc0_2
 clear hr0_2 hc0_2
 have HB := Aside0.mk (Below.refl w.heap.size w)
 have H : ((zone_Validate.f k a0_0 a0_1 l0_2).bind fun t209 => (if t209 = 0 then ((zone_spanOK.f a1_0 a1_1).bind fun t210 => (if t210 = true then (if a2 < 0 then (some 5) else (if a2 ≥ 1440 then (some 5) else (if a3 < 0 then (some 5) else (if a3 ≥ 1440 then (some 5) else (some 0))))) else (some 5))) else (some t209))) = some r := h
 clear h
 replace H := Option.bind_eq_some_iff.mp H
 obtain ⟨t209, A50, H⟩ := H
 replace H : (if t209 = 0 then ((zone_spanOK.f a1_0 a1_1).bind fun t210 => (if t210 = true then (if a2 < 0 then (some 5) else (if a2 ≥ 1440 then (some 5) else (if a3 < 0 then (some 5) else (if a3 ≥ 1440 then (some 5) else (some 0))))) else (some 5))) else (some t209)) = some r := H
 have A5 := Aside0.mk A50
 clear A50
 by_cases c6 : t209 = 0
 ·rw [if_pos c6] at H
  have c6b0 : (t209 == 0) = true := beq_iff_eq.mpr c6
  have c6b1 : (t209 != 0) = false := bne_eq_false_iff_eq.mpr c6
  clear c6
  replace H := Option.bind_eq_some_iff.mp H
  obtain ⟨t210, A70, H⟩ := H
  replace H : (if t210 = true then (if a2 < 0 then (some 5) else (if a2 ≥ 1440 then (some 5) else (if a3 < 0 then (some 5) else (if a3 ≥ 1440 then (some 5) else (some 0))))) else (some 5)) = some r := H
  have A7 := Aside0.mk A70
  clear A70
  by_cases c8 : t210 = true
  ·subst c8
   have H1 : (if a2 < 0 then (some 5) else (if a2 ≥ 1440 then (some 5) else (if a3 < 0 then (some 5) else (if a3 ≥ 1440 then (some 5) else (some 0))))) = some r := by rw [if_pos rfl] at H; exact H
   clear H
   have H := H1
   clear H1
   by_cases c9 : a2 < 0
   ·rw [if_pos c9] at H
    have c9b0 : decide (a2 < 0) = true := decide_eq_true c9
    clear c9
    obtain rfl := Option.some.inj H
    go_enter Tryz.func89, Tryz.ntmps89
    go_wp2_with (first | ((with_reducible refine gate_dst (N := 4) rfl ?_); refine box_event ?hg (N := 4) ?hd (cs := #[.string a0_0, .int .i64 a0_1, .slice A0_2 l0_2.length c0_2]) (t := 83) ?hr ?_; (case hd => rfl); (case hg => rfl); (case hr => first | (go_simp; done) | (go_simp; rfl)); intro gb207 hg w10 hbox hb; have BK207 := Aside0.mk hbox; have GE207 := Aside0.mk ((by rw [hg]; exact (below_size hbk) : w.heap.size ≤ gb207)); replace HB := Aside0.mk (below_step hbk hb); clear hb hbox hg) | ((with_reducible refine gate_dst (N := 5) rfl ?_); refine box_event ?hg (N := 5) ?hd (cs := #[.int .i64 a1_0, .int .i64 a1_1]) (t := 114) ?hr ?_; (case hd => rfl); (case hg => rfl); (case hr => first | (go_simp; done) | (go_simp; rfl)); intro gb208 hg w11 hbox hb; have BK208 := Aside0.mk hbox; have GE208 := Aside0.mk ((by rw [hg]; exact (below_size hbk) : w.heap.size ≤ gb208)); have NB207_208 := Aside0.mk ((by rw [hg]; exact Nat.ne_of_lt (blk_ltB BK207.out) : gb207 ≠ gb208)); have NB208_207 := Aside0.mk ((by rw [hg]; exact Nat.ne_of_gt (blk_ltB BK207.out) : gb208 ≠ gb207)); replace BK207 := Aside0.mk (blk_belowB BK207.out hb); replace HB := Aside0.mk (below_step hbk hb); clear hb hbox hg; have hnb12 := NB207_208.out; have hnc12 := NB208_207.out; obtain ⟨hcz13_0, hcz13_1, hcz13_2⟩ := blk_cs3 BK207.out; obtain ⟨hfz13_0, hfz13_1, hfz13_2⟩ := blk_fs3 BK207.out) | ((with_reducible refine gate_callee (f := 72) rfl ?_); refine goesL_ (some 11) rfl rfl Tryz.func72 (by kernel_rfl) rfl #[.agg #[.string a0_0, .int .i64 a0_1, .slice A0_2 l0_2.length c0_2]] rfl hgl ?_; (with_reducible refine (zone_Validate.calls k a0_0 a0_1 _ _ l0_2 t209 _ ?side1 ?side2 A5.out).mono ?_); (case side1 => exact Kd.C_below HR0_2.out hbk); (case side2 => exact HC0_2.out); rintro e w14 ⟨rfl, hb⟩; refine ⟨_, rfl, ?_⟩; have n0_ := Aside0.mk (blk_belowB BK207.out hb); have n1_ := Aside0.mk (blk_belowB BK208.out hb); have n2_ := Aside0.mk (below_step hbk hb); clear BK207; clear BK208; clear HB; have BK207 := n0_; have BK208 := n1_; have HB := n2_; clear n0_ n1_ n2_; (try clear hb); (try clear hb2); (try clear hk); (try clear hi); obtain ⟨hcz15_0, hcz15_1⟩ := blk_cs2 BK208.out; obtain ⟨hfz15_0, hfz15_1⟩ := blk_fs2 BK208.out) | ((with_reducible refine gate_callee (f := 111) rfl ?_); refine goesL_ (some 16) rfl rfl Tryz.func111 (by kernel_rfl) rfl #[.agg #[.int .i64 a1_0, .int .i64 a1_1]] rfl hgl ?_; (with_reducible refine (zone_spanOK.calls a1_0 a1_1 true _ A7.out).mono ?_); rintro e w16 ⟨rfl, hb⟩; refine ⟨_, rfl, ?_⟩; have n0_ := Aside0.mk (blk_belowB BK207.out hb); have n1_ := Aside0.mk (blk_belowB BK208.out hb); have n2_ := Aside0.mk (below_step hbk hb); clear BK207; clear BK208; clear HB; have BK207 := n0_; have BK208 := n1_; have HB := n2_; clear n0_ n1_ n2_; (try clear hb); (try clear hb2); (try clear hk); (try clear hi)))
    go_ret
    exact ⟨hrf, hbk⟩
   ·rw [if_neg c9] at H
    have c9b0 : decide (a2 < 0) = false := decide_eq_false c9
    clear c9
    by_cases c17 : a2 ≥ 1440
    ·rw [if_pos c17] at H
     have c17b0 : decide (1440 ≤ a2) = true := decide_eq_true c17
     clear c17
     obtain rfl := Option.some.inj H
     go_enter Tryz.func89, Tryz.ntmps89
     go_wp2_with (first | ((with_reducible refine gate_dst (N := 4) rfl ?_); refine box_event ?hg (N := 4) ?hd (cs := #[.string a0_0, .int .i64 a0_1, .slice A0_2 l0_2.length c0_2]) (t := 83) ?hr ?_; (case hd => rfl); (case hg => rfl); (case hr => first | (go_simp; done) | (go_simp; rfl)); intro gb207 hg w18 hbox hb; have BK207 := Aside0.mk hbox; have GE207 := Aside0.mk ((by rw [hg]; exact (below_size hbk) : w.heap.size ≤ gb207)); replace HB := Aside0.mk (below_step hbk hb); clear hb hbox hg) | ((with_reducible refine gate_dst (N := 5) rfl ?_); refine box_event ?hg (N := 5) ?hd (cs := #[.int .i64 a1_0, .int .i64 a1_1]) (t := 114) ?hr ?_; (case hd => rfl); (case hg => rfl); (case hr => first | (go_simp; done) | (go_simp; rfl)); intro gb208 hg w19 hbox hb; have BK208 := Aside0.mk hbox; have GE208 := Aside0.mk ((by rw [hg]; exact (below_size hbk) : w.heap.size ≤ gb208)); have NB207_208 := Aside0.mk ((by rw [hg]; exact Nat.ne_of_lt (blk_ltB BK207.out) : gb207 ≠ gb208)); have NB208_207 := Aside0.mk ((by rw [hg]; exact Nat.ne_of_gt (blk_ltB BK207.out) : gb208 ≠ gb207)); replace BK207 := Aside0.mk (blk_belowB BK207.out hb); replace HB := Aside0.mk (below_step hbk hb); clear hb hbox hg; have hnb20 := NB207_208.out; have hnc20 := NB208_207.out; obtain ⟨hcz21_0, hcz21_1, hcz21_2⟩ := blk_cs3 BK207.out; obtain ⟨hfz21_0, hfz21_1, hfz21_2⟩ := blk_fs3 BK207.out) | ((with_reducible refine gate_callee (f := 72) rfl ?_); refine goesL_ (some 11) rfl rfl Tryz.func72 (by kernel_rfl) rfl #[.agg #[.string a0_0, .int .i64 a0_1, .slice A0_2 l0_2.length c0_2]] rfl hgl ?_; (with_reducible refine (zone_Validate.calls k a0_0 a0_1 _ _ l0_2 t209 _ ?side1 ?side2 A5.out).mono ?_); (case side1 => exact Kd.C_below HR0_2.out hbk); (case side2 => exact HC0_2.out); rintro e w22 ⟨rfl, hb⟩; refine ⟨_, rfl, ?_⟩; have n0_ := Aside0.mk (blk_belowB BK207.out hb); have n1_ := Aside0.mk (blk_belowB BK208.out hb); have n2_ := Aside0.mk (below_step hbk hb); clear BK207; clear BK208; clear HB; have BK207 := n0_; have BK208 := n1_; have HB := n2_; clear n0_ n1_ n2_; (try clear hb); (try clear hb2); (try clear hk); (try clear hi); obtain ⟨hcz23_0, hcz23_1⟩ := blk_cs2 BK208.out; obtain ⟨hfz23_0, hfz23_1⟩ := blk_fs2 BK208.out) | ((with_reducible refine gate_callee (f := 111) rfl ?_); refine goesL_ (some 16) rfl rfl Tryz.func111 (by kernel_rfl) rfl #[.agg #[.int .i64 a1_0, .int .i64 a1_1]] rfl hgl ?_; (with_reducible refine (zone_spanOK.calls a1_0 a1_1 true _ A7.out).mono ?_); rintro e w24 ⟨rfl, hb⟩; refine ⟨_, rfl, ?_⟩; have n0_ := Aside0.mk (blk_belowB BK207.out hb); have n1_ := Aside0.mk (blk_belowB BK208.out hb); have n2_ := Aside0.mk (below_step hbk hb); clear BK207; clear BK208; clear HB; have BK207 := n0_; have BK208 := n1_; have HB := n2_; clear n0_ n1_ n2_; (try clear hb); (try clear hb2); (try clear hk); (try clear hi)))
     go_ret
     exact ⟨hrf, hbk⟩
    ·rw [if_neg c17] at H
     have c17b0 : decide (1440 ≤ a2) = false := decide_eq_false c17
     clear c17
     by_cases c25 : a3 < 0
     ·rw [if_pos c25] at H
      have c25b0 : decide (a3 < 0) = true := decide_eq_true c25
      clear c25
      obtain rfl := Option.some.inj H
      go_enter Tryz.func89, Tryz.ntmps89
      go_wp2_with (first | ((with_reducible refine gate_dst (N := 4) rfl ?_); refine box_event ?hg (N := 4) ?hd (cs := #[.string a0_0, .int .i64 a0_1, .slice A0_2 l0_2.length c0_2]) (t := 83) ?hr ?_; (case hd => rfl); (case hg => rfl); (case hr => first | (go_simp; done) | (go_simp; rfl)); intro gb207 hg w26 hbox hb; have BK207 := Aside0.mk hbox; have GE207 := Aside0.mk ((by rw [hg]; exact (below_size hbk) : w.heap.size ≤ gb207)); replace HB := Aside0.mk (below_step hbk hb); clear hb hbox hg) | ((with_reducible refine gate_dst (N := 5) rfl ?_); refine box_event ?hg (N := 5) ?hd (cs := #[.int .i64 a1_0, .int .i64 a1_1]) (t := 114) ?hr ?_; (case hd => rfl); (case hg => rfl); (case hr => first | (go_simp; done) | (go_simp; rfl)); intro gb208 hg w27 hbox hb; have BK208 := Aside0.mk hbox; have GE208 := Aside0.mk ((by rw [hg]; exact (below_size hbk) : w.heap.size ≤ gb208)); have NB207_208 := Aside0.mk ((by rw [hg]; exact Nat.ne_of_lt (blk_ltB BK207.out) : gb207 ≠ gb208)); have NB208_207 := Aside0.mk ((by rw [hg]; exact Nat.ne_of_gt (blk_ltB BK207.out) : gb208 ≠ gb207)); replace BK207 := Aside0.mk (blk_belowB BK207.out hb); replace HB := Aside0.mk (below_step hbk hb); clear hb hbox hg; have hnb28 := NB207_208.out; have hnc28 := NB208_207.out; obtain ⟨hcz29_0, hcz29_1, hcz29_2⟩ := blk_cs3 BK207.out; obtain ⟨hfz29_0, hfz29_1, hfz29_2⟩ := blk_fs3 BK207.out) | ((with_reducible refine gate_callee (f := 72) rfl ?_); refine goesL_ (some 11) rfl rfl Tryz.func72 (by kernel_rfl) rfl #[.agg #[.string a0_0, .int .i64 a0_1, .slice A0_2 l0_2.length c0_2]] rfl hgl ?_; (with_reducible refine (zone_Validate.calls k a0_0 a0_1 _ _ l0_2 t209 _ ?side1 ?side2 A5.out).mono ?_); (case side1 => exact Kd.C_below HR0_2.out hbk); (case side2 => exact HC0_2.out); rintro e w30 ⟨rfl, hb⟩; refine ⟨_, rfl, ?_⟩; have n0_ := Aside0.mk (blk_belowB BK207.out hb); have n1_ := Aside0.mk (blk_belowB BK208.out hb); have n2_ := Aside0.mk (below_step hbk hb); clear BK207; clear BK208; clear HB; have BK207 := n0_; have BK208 := n1_; have HB := n2_; clear n0_ n1_ n2_; (try clear hb); (try clear hb2); (try clear hk); (try clear hi); obtain ⟨hcz31_0, hcz31_1⟩ := blk_cs2 BK208.out; obtain ⟨hfz31_0, hfz31_1⟩ := blk_fs2 BK208.out) | ((with_reducible refine gate_callee (f := 111) rfl ?_); refine goesL_ (some 16) rfl rfl Tryz.func111 (by kernel_rfl) rfl #[.agg #[.int .i64 a1_0, .int .i64 a1_1]] rfl hgl ?_; (with_reducible refine (zone_spanOK.calls a1_0 a1_1 true _ A7.out).mono ?_); rintro e w32 ⟨rfl, hb⟩; refine ⟨_, rfl, ?_⟩; have n0_ := Aside0.mk (blk_belowB BK207.out hb); have n1_ := Aside0.mk (blk_belowB BK208.out hb); have n2_ := Aside0.mk (below_step hbk hb); clear BK207; clear BK208; clear HB; have BK207 := n0_; have BK208 := n1_; have HB := n2_; clear n0_ n1_ n2_; (try clear hb); (try clear hb2); (try clear hk); (try clear hi)))
      go_ret
      exact ⟨hrf, hbk⟩
     ·rw [if_neg c25] at H
      have c25b0 : decide (a3 < 0) = false := decide_eq_false c25
      clear c25
      by_cases c33 : a3 ≥ 1440
      ·rw [if_pos c33] at H
       have c33b0 : decide (1440 ≤ a3) = true := decide_eq_true c33
       clear c33
       obtain rfl := Option.some.inj H
       go_enter Tryz.func89, Tryz.ntmps89
       go_wp2_with (first | ((with_reducible refine gate_dst (N := 4) rfl ?_); refine box_event ?hg (N := 4) ?hd (cs := #[.string a0_0, .int .i64 a0_1, .slice A0_2 l0_2.length c0_2]) (t := 83) ?hr ?_; (case hd => rfl); (case hg => rfl); (case hr => first | (go_simp; done) | (go_simp; rfl)); intro gb207 hg w34 hbox hb; have BK207 := Aside0.mk hbox; have GE207 := Aside0.mk ((by rw [hg]; exact (below_size hbk) : w.heap.size ≤ gb207)); replace HB := Aside0.mk (below_step hbk hb); clear hb hbox hg) | ((with_reducible refine gate_dst (N := 5) rfl ?_); refine box_event ?hg (N := 5) ?hd (cs := #[.int .i64 a1_0, .int .i64 a1_1]) (t := 114) ?hr ?_; (case hd => rfl); (case hg => rfl); (case hr => first | (go_simp; done) | (go_simp; rfl)); intro gb208 hg w35 hbox hb; have BK208 := Aside0.mk hbox; have GE208 := Aside0.mk ((by rw [hg]; exact (below_size hbk) : w.heap.size ≤ gb208)); have NB207_208 := Aside0.mk ((by rw [hg]; exact Nat.ne_of_lt (blk_ltB BK207.out) : gb207 ≠ gb208)); have NB208_207 := Aside0.mk ((by rw [hg]; exact Nat.ne_of_gt (blk_ltB BK207.out) : gb208 ≠ gb207)); replace BK207 := Aside0.mk (blk_belowB BK207.out hb); replace HB := Aside0.mk (below_step hbk hb); clear hb hbox hg; have hnb36 := NB207_208.out; have hnc36 := NB208_207.out; obtain ⟨hcz37_0, hcz37_1, hcz37_2⟩ := blk_cs3 BK207.out; obtain ⟨hfz37_0, hfz37_1, hfz37_2⟩ := blk_fs3 BK207.out) | ((with_reducible refine gate_callee (f := 72) rfl ?_); refine goesL_ (some 11) rfl rfl Tryz.func72 (by kernel_rfl) rfl #[.agg #[.string a0_0, .int .i64 a0_1, .slice A0_2 l0_2.length c0_2]] rfl hgl ?_; (with_reducible refine (zone_Validate.calls k a0_0 a0_1 _ _ l0_2 t209 _ ?side1 ?side2 A5.out).mono ?_); (case side1 => exact Kd.C_below HR0_2.out hbk); (case side2 => exact HC0_2.out); rintro e w38 ⟨rfl, hb⟩; refine ⟨_, rfl, ?_⟩; have n0_ := Aside0.mk (blk_belowB BK207.out hb); have n1_ := Aside0.mk (blk_belowB BK208.out hb); have n2_ := Aside0.mk (below_step hbk hb); clear BK207; clear BK208; clear HB; have BK207 := n0_; have BK208 := n1_; have HB := n2_; clear n0_ n1_ n2_; (try clear hb); (try clear hb2); (try clear hk); (try clear hi); obtain ⟨hcz39_0, hcz39_1⟩ := blk_cs2 BK208.out; obtain ⟨hfz39_0, hfz39_1⟩ := blk_fs2 BK208.out) | ((with_reducible refine gate_callee (f := 111) rfl ?_); refine goesL_ (some 16) rfl rfl Tryz.func111 (by kernel_rfl) rfl #[.agg #[.int .i64 a1_0, .int .i64 a1_1]] rfl hgl ?_; (with_reducible refine (zone_spanOK.calls a1_0 a1_1 true _ A7.out).mono ?_); rintro e w40 ⟨rfl, hb⟩; refine ⟨_, rfl, ?_⟩; have n0_ := Aside0.mk (blk_belowB BK207.out hb); have n1_ := Aside0.mk (blk_belowB BK208.out hb); have n2_ := Aside0.mk (below_step hbk hb); clear BK207; clear BK208; clear HB; have BK207 := n0_; have BK208 := n1_; have HB := n2_; clear n0_ n1_ n2_; (try clear hb); (try clear hb2); (try clear hk); (try clear hi)))
       go_ret
       exact ⟨hrf, hbk⟩
      ·rw [if_neg c33] at H
       have c33b0 : decide (1440 ≤ a3) = false := decide_eq_false c33
       clear c33
       obtain rfl := Option.some.inj H
       go_enter Tryz.func89, Tryz.ntmps89
       go_wp2_with (first | ((with_reducible refine gate_dst (N := 4) rfl ?_); refine box_event ?hg (N := 4) ?hd (cs := #[.string a0_0, .int .i64 a0_1, .slice A0_2 l0_2.length c0_2]) (t := 83) ?hr ?_; (case hd => rfl); (case hg => rfl); (case hr => first | (go_simp; done) | (go_simp; rfl)); intro gb207 hg w41 hbox hb; have BK207 := Aside0.mk hbox; have GE207 := Aside0.mk ((by rw [hg]; exact (below_size hbk) : w.heap.size ≤ gb207)); replace HB := Aside0.mk (below_step hbk hb); clear hb hbox hg) | ((with_reducible refine gate_dst (N := 5) rfl ?_); refine box_event ?hg (N := 5) ?hd (cs := #[.int .i64 a1_0, .int .i64 a1_1]) (t := 114) ?hr ?_; (case hd => rfl); (case hg => rfl); (case hr => first | (go_simp; done) | (go_simp; rfl)); intro gb208 hg w42 hbox hb; have BK208 := Aside0.mk hbox; have GE208 := Aside0.mk ((by rw [hg]; exact (below_size hbk) : w.heap.size ≤ gb208)); have NB207_208 := Aside0.mk ((by rw [hg]; exact Nat.ne_of_lt (blk_ltB BK207.out) : gb207 ≠ gb208)); have NB208_207 := Aside0.mk ((by rw [hg]; exact Nat.ne_of_gt (blk_ltB BK207.out) : gb208 ≠ gb207)); replace BK207 := Aside0.mk (blk_belowB BK207.out hb); replace HB := Aside0.mk (below_step hbk hb); clear hb hbox hg; have hnb43 := NB207_208.out; have hnc43 := NB208_207.out; obtain ⟨hcz44_0, hcz44_1, hcz44_2⟩ := blk_cs3 BK207.out; obtain ⟨hfz44_0, hfz44_1, hfz44_2⟩ := blk_fs3 BK207.out) | ((with_reducible refine gate_callee (f := 72) rfl ?_); refine goesL_ (some 11) rfl rfl Tryz.func72 (by kernel_rfl) rfl #[.agg #[.string a0_0, .int .i64 a0_1, .slice A0_2 l0_2.length c0_2]] rfl hgl ?_; (with_reducible refine (zone_Validate.calls k a0_0 a0_1 _ _ l0_2 t209 _ ?side1 ?side2 A5.out).mono ?_); (case side1 => exact Kd.C_below HR0_2.out hbk); (case side2 => exact HC0_2.out); rintro e w45 ⟨rfl, hb⟩; refine ⟨_, rfl, ?_⟩; have n0_ := Aside0.mk (blk_belowB BK207.out hb); have n1_ := Aside0.mk (blk_belowB BK208.out hb); have n2_ := Aside0.mk (below_step hbk hb); clear BK207; clear BK208; clear HB; have BK207 := n0_; have BK208 := n1_; have HB := n2_; clear n0_ n1_ n2_; (try clear hb); (try clear hb2); (try clear hk); (try clear hi); obtain ⟨hcz46_0, hcz46_1⟩ := blk_cs2 BK208.out; obtain ⟨hfz46_0, hfz46_1⟩ := blk_fs2 BK208.out) | ((with_reducible refine gate_callee (f := 111) rfl ?_); refine goesL_ (some 16) rfl rfl Tryz.func111 (by kernel_rfl) rfl #[.agg #[.int .i64 a1_0, .int .i64 a1_1]] rfl hgl ?_; (with_reducible refine (zone_spanOK.calls a1_0 a1_1 true _ A7.out).mono ?_); rintro e w47 ⟨rfl, hb⟩; refine ⟨_, rfl, ?_⟩; have n0_ := Aside0.mk (blk_belowB BK207.out hb); have n1_ := Aside0.mk (blk_belowB BK208.out hb); have n2_ := Aside0.mk (below_step hbk hb); clear BK207; clear BK208; clear HB; have BK207 := n0_; have BK208 := n1_; have HB := n2_; clear n0_ n1_ n2_; (try clear hb); (try clear hb2); (try clear hk); (try clear hi)))
       go_ret
       exact ⟨hrf, hbk⟩
  ·replace c8 := Bool.eq_false_iff.mpr c8
   subst c8
   have H1 : (some 5) = some r := by rw [if_neg (show ¬ (false = true) by decide)] at H; exact H
   clear H
   have H := H1
   clear H1
   obtain rfl := Option.some.inj H
   go_enter Tryz.func89, Tryz.ntmps89
   go_wp2_with (first | ((with_reducible refine gate_dst (N := 4) rfl ?_); refine box_event ?hg (N := 4) ?hd (cs := #[.string a0_0, .int .i64 a0_1, .slice A0_2 l0_2.length c0_2]) (t := 83) ?hr ?_; (case hd => rfl); (case hg => rfl); (case hr => first | (go_simp; done) | (go_simp; rfl)); intro gb207 hg w48 hbox hb; have BK207 := Aside0.mk hbox; have GE207 := Aside0.mk ((by rw [hg]; exact (below_size hbk) : w.heap.size ≤ gb207)); replace HB := Aside0.mk (below_step hbk hb); clear hb hbox hg) | ((with_reducible refine gate_dst (N := 5) rfl ?_); refine box_event ?hg (N := 5) ?hd (cs := #[.int .i64 a1_0, .int .i64 a1_1]) (t := 114) ?hr ?_; (case hd => rfl); (case hg => rfl); (case hr => first | (go_simp; done) | (go_simp; rfl)); intro gb208 hg w49 hbox hb; have BK208 := Aside0.mk hbox; have GE208 := Aside0.mk ((by rw [hg]; exact (below_size hbk) : w.heap.size ≤ gb208)); have NB207_208 := Aside0.mk ((by rw [hg]; exact Nat.ne_of_lt (blk_ltB BK207.out) : gb207 ≠ gb208)); have NB208_207 := Aside0.mk ((by rw [hg]; exact Nat.ne_of_gt (blk_ltB BK207.out) : gb208 ≠ gb207)); replace BK207 := Aside0.mk (blk_belowB BK207.out hb); replace HB := Aside0.mk (below_step hbk hb); clear hb hbox hg; have hnb50 := NB207_208.out; have hnc50 := NB208_207.out; obtain ⟨hcz51_0, hcz51_1, hcz51_2⟩ := blk_cs3 BK207.out; obtain ⟨hfz51_0, hfz51_1, hfz51_2⟩ := blk_fs3 BK207.out) | ((with_reducible refine gate_callee (f := 72) rfl ?_); refine goesL_ (some 11) rfl rfl Tryz.func72 (by kernel_rfl) rfl #[.agg #[.string a0_0, .int .i64 a0_1, .slice A0_2 l0_2.length c0_2]] rfl hgl ?_; (with_reducible refine (zone_Validate.calls k a0_0 a0_1 _ _ l0_2 t209 _ ?side1 ?side2 A5.out).mono ?_); (case side1 => exact Kd.C_below HR0_2.out hbk); (case side2 => exact HC0_2.out); rintro e w52 ⟨rfl, hb⟩; refine ⟨_, rfl, ?_⟩; have n0_ := Aside0.mk (blk_belowB BK207.out hb); have n1_ := Aside0.mk (blk_belowB BK208.out hb); have n2_ := Aside0.mk (below_step hbk hb); clear BK207; clear BK208; clear HB; have BK207 := n0_; have BK208 := n1_; have HB := n2_; clear n0_ n1_ n2_; (try clear hb); (try clear hb2); (try clear hk); (try clear hi); obtain ⟨hcz53_0, hcz53_1⟩ := blk_cs2 BK208.out; obtain ⟨hfz53_0, hfz53_1⟩ := blk_fs2 BK208.out) | ((with_reducible refine gate_callee (f := 111) rfl ?_); refine goesL_ (some 16) rfl rfl Tryz.func111 (by kernel_rfl) rfl #[.agg #[.int .i64 a1_0, .int .i64 a1_1]] rfl hgl ?_; (with_reducible refine (zone_spanOK.calls a1_0 a1_1 false _ A7.out).mono ?_); rintro e w54 ⟨rfl, hb⟩; refine ⟨_, rfl, ?_⟩; have n0_ := Aside0.mk (blk_belowB BK207.out hb); have n1_ := Aside0.mk (blk_belowB BK208.out hb); have n2_ := Aside0.mk (below_step hbk hb); clear BK207; clear BK208; clear HB; have BK207 := n0_; have BK208 := n1_; have HB := n2_; clear n0_ n1_ n2_; (try clear hb); (try clear hb2); (try clear hk); (try clear hi)))
   go_ret
   exact ⟨hrf, hbk⟩
 ·rw [if_neg c6] at H
  have c6b0 : (t209 == 0) = false := beq_eq_false_iff_ne.mpr c6
  have c6b1 : (t209 != 0) = true := bne_iff_ne.mpr c6
  obtain rfl := Option.some.inj H
  go_enter Tryz.func89, Tryz.ntmps89
  go_wp2_with (first | ((with_reducible refine gate_dst (N := 4) rfl ?_); refine box_event ?hg (N := 4) ?hd (cs := #[.string a0_0, .int .i64 a0_1, .slice A0_2 l0_2.length c0_2]) (t := 83) ?hr ?_; (case hd => rfl); (case hg => rfl); (case hr => first | (go_simp; done) | (go_simp; rfl)); intro gb207 hg w55 hbox hb; have BK207 := Aside0.mk hbox; have GE207 := Aside0.mk ((by rw [hg]; exact (below_size hbk) : w.heap.size ≤ gb207)); replace HB := Aside0.mk (below_step hbk hb); clear hb hbox hg) | ((with_reducible refine gate_dst (N := 5) rfl ?_); refine box_event ?hg (N := 5) ?hd (cs := #[.int .i64 a1_0, .int .i64 a1_1]) (t := 114) ?hr ?_; (case hd => rfl); (case hg => rfl); (case hr => first | (go_simp; done) | (go_simp; rfl)); intro gb208 hg w56 hbox hb; have BK208 := Aside0.mk hbox; have GE208 := Aside0.mk ((by rw [hg]; exact (below_size hbk) : w.heap.size ≤ gb208)); have NB207_208 := Aside0.mk ((by rw [hg]; exact Nat.ne_of_lt (blk_ltB BK207.out) : gb207 ≠ gb208)); have NB208_207 := Aside0.mk ((by rw [hg]; exact Nat.ne_of_gt (blk_ltB BK207.out) : gb208 ≠ gb207)); replace BK207 := Aside0.mk (blk_belowB BK207.out hb); replace HB := Aside0.mk (below_step hbk hb); clear hb hbox hg; have hnb57 := NB207_208.out; have hnc57 := NB208_207.out; obtain ⟨hcz58_0, hcz58_1, hcz58_2⟩ := blk_cs3 BK207.out; obtain ⟨hfz58_0, hfz58_1, hfz58_2⟩ := blk_fs3 BK207.out) | ((with_reducible refine gate_callee (f := 72) rfl ?_); refine goesL_ (some 11) rfl rfl Tryz.func72 (by kernel_rfl) rfl #[.agg #[.string a0_0, .int .i64 a0_1, .slice A0_2 l0_2.length c0_2]] rfl hgl ?_; (with_reducible refine (zone_Validate.calls k a0_0 a0_1 _ _ l0_2 t209 _ ?side1 ?side2 A5.out).mono ?_); (case side1 => exact Kd.C_below HR0_2.out hbk); (case side2 => exact HC0_2.out); rintro e w59 ⟨rfl, hb⟩; refine ⟨_, rfl, ?_⟩; have n0_ := Aside0.mk (blk_belowB BK207.out hb); have n1_ := Aside0.mk (blk_belowB BK208.out hb); have n2_ := Aside0.mk (below_step hbk hb); clear BK207; clear BK208; clear HB; have BK207 := n0_; have BK208 := n1_; have HB := n2_; clear n0_ n1_ n2_; (try clear hb); (try clear hb2); (try clear hk); (try clear hi)))
  go_ret
  exact ⟨hrf, hbk⟩
end Go.Proofs.YtilnppdognejbaaGreatDoor.P
namespace Go.Proofs.YtilnppdognejbaaGreatDoor.P
open Go.RowKit Go.Proofs.YtilnppdognejbaaGreatDoorW.PrintWords Go.Proofs.YtilnppdognejbaaGreatDoorW.PrintLast Go.Proofs.YtilnppdognejbaaGreatDoorW.PrintMore
attribute [local go_sem] max2_int min2_int max_two min_two max_three min_three max_four min_four   -- for this text's walks alone
set_option linter.unusedVariables false
set_option linter.unusedSimpArgs false
/-- What a call of the closure leaves: the block 'go' holds a row of xs; every other block of w but v's own is as it was. -/
def Seg52 (base : Nat) (w0 w : World) (go : Nat) (v : Value) (xs : List S148) (e : Ending) (w' : World) : Prop :=
 e = .returned (.tuple #[]) ∧ Below base w0 w' ∧ (∃ v', w'.heap[go]? = some (.cells #[v'] 149 (0, 0)) ∧ Kd.R k148 148 w' base (fun _ => True) v' xs) ∧
 w.heap.size ≤ w'.heap.size ∧ ∀ i, i < w.heap.size → i ≠ go → some i ≠ v.ownBlock → w'.heap[i]? = w.heap[i]?
set_option maxHeartbeats 2000000 in
set_option maxRecDepth 100000 in
theorem seg52_no (a b o sf st : Int) (gs go : Nat) (base : Nat) (w0 w : World) (v : Value) (xs : List S148)
  (hs : w.heap[gs]? = some (.cells #[.int .i64 sf, .int .i64 st] 114 (0, 0))) (hg : w.heap[go]? = some (.cells #[v] 149 (0, 0)))
  (hB : Below base w0 w)
  (hR : Kd.R k148 148 w base (fun _ => True) v xs) (m1 m2 : Int) (hm1 : (if a < sf then sf else a) = m1) (hm2 : (if st < b then st else b) = m2) (hlt : ¬ m1 < m2) :
  Calls Tryz.prog 113 #[.int .i64 a, .int .i64 b, .int .i64 o, .pointer (some ⟨gs, 0, none⟩), .pointer (some ⟨go, 0, none⟩)] w (Seg52 base w0 w go v xs) := by
 have hz0 : w.cell? ⟨gs, 0, none⟩ = some (.int .i64 sf) := (blk_cell hs 0).trans rfl
 have hz1 : w.cell? ⟨gs, 1, none⟩ = some (.int .i64 st) := (blk_cell hs 1).trans rfl
 have HG := Aside0.mk hg
 have HB := Aside0.mk hB
 have HR := Aside0.mk hR
 have hd : decide (m1 < m2) = false := decide_eq_false hlt
 clear hs hg hB hR hlt
 go_enter Tryz.func113, Tryz.ntmps113
 go_wp2
 go_quiet (fail)
 go_wp2_with fail
 go_end0
 exact ⟨rfl, pw_below_drewN HB.out _, ⟨v, HG.out, Kd.R_drewN HR.out _⟩, Nat.le_refl _, fun _ _ _ _ => rfl⟩
set_option maxHeartbeats 2000000 in
set_option maxRecDepth 100000 in
theorem seg52_yes (a b o sf st : Int) (gs go : Nat) (base : Nat) (w0 w : World) (v : Value) (xs : List S148)
  (hs : w.heap[gs]? = some (.cells #[.int .i64 sf, .int .i64 st] 114 (0, 0))) (hg : w.heap[go]? = some (.cells #[v] 149 (0, 0)))
  (hB : Below base w0 w) (hbase : base ≤ w.heap.size) (hbg : base ≤ go) (hlen : xs.length ≤ 100)
  (hR : Kd.R k148 148 w base (fun _ => True) v xs) (m1 m2 : Int) (hm1 : (if a < sf then sf else a) = m1) (hm2 : (if st < b then st else b) = m2) (hlt : m1 < m2) :
  Calls Tryz.prog 113 #[.int .i64 a, .int .i64 b, .int .i64 o, .pointer (some ⟨gs, 0, none⟩), .pointer (some ⟨go, 0, none⟩)] w (Seg52 base w0 w go v (xs ++ [⟨m1, m2, o⟩])) := by
 have hz0 : w.cell? ⟨gs, 0, none⟩ = some (.int .i64 sf) := (blk_cell hs 0).trans rfl
 have hz1 : w.cell? ⟨gs, 1, none⟩ = some (.int .i64 st) := (blk_cell hs 1).trans rfl
 have hz2 : w.cell? ⟨go, 0, none⟩ = some v := (blk_cell hg 0).trans rfl
 have HG := Aside0.mk hg
 have HB := Aside0.mk hB
 have HR := Aside0.mk hR
 have hd : decide (m1 < m2) = true := decide_eq_true hlt
 have HL := Aside0.mk hlen
 have HBS := Aside0.mk hbase
 have HBG := Aside0.mk hbg
 clear hs hg hB hR hlt hlen hbase hbg
 go_enter Tryz.func113, Tryz.ntmps113
 go_wp2
 go_quiet (fail)
 go_wp2_with (first | ((with_reducible refine gate_builtin (b := .append) (xs := #[.tmp 19, .tmp 24]) rfl ?_); at_builtin; refine Kd.R_append k148 (w0 := w0) base rfl (.tmp 19) (.tmp 24) 149 148 (.agg #[(.int .i64 0), (.int .i64 0), (.int .i64 0)]) 24 rfl Tryz.underlying149 info148 rfl (by decide) (by omega) v xs (⟨m1, m2, o⟩ : S148) [.int .i64 m1, .int .i64 m2, .int .i64 o] (fun _ => True) (fun _ => False) rfl rfl ?aP (fun _ hk => hk.elim) (fun _ _ => trivial) ?aO ?aB ?aS ?aL ?_; (case aP => exact k148_mkM _ _ _ (⟨m1, m2, o⟩ : S148)); (case aB => exact pw_below_drewN HB.out _); (case aO => exact Kd.R_drewN HR.out _); (case aS => exact HBS.out); (case aL => have := HL.out; omega); intro v1 w1 ho hb hgr hat; obtain ⟨A1, c1, e1⟩ := Kd.R_slice ho; subst e1; have bg := blk_grown (g := go) (row := v.ownBlock) (show (w.drewN nq).heap[go]? = _ from HG.out) hgr (Kd.R_ne HR.out HG.out (by decide)); have BG := Aside0.mk bg; have hz3 : w1.cell? ⟨go, 0, none⟩ = some v := (blk_cell bg 0).trans rfl; have hf3 := blk_frozen bg 0; have HO := Aside0.mk ho; have HB1 := Aside0.mk hb; have HGR := Aside0.mk hgr; have HAT := Aside0.mk hat; clear bg ho hb hgr hat))
 go_end0
 have HO' := HO.out
 rw [show (xs ++ [(⟨m1, m2, o⟩ : S148)]).length = xs.length + 1 from by simp] at HO'
 refine ⟨rfl, HB1.out.setCell HBG.out _, ⟨_, blk_set BG.out 0 _, Kd.R_set HO' BG.out (by decide) 0 _⟩, ?_, ?_⟩
 ·have := HGR.out.size
  rw [World.size_setCell]
  exact this
 ·intro i hi hne hnv
  exact (Below.heap_setCell w1 _ _ i hne).trans (HGR.out.block i hi hnv)
/- The segments, told by themselves. -/
def clipS (sf st a b o : Int) : List S148 := if mx a sf < mn b st then [⟨mx a sf, mn b st, o⟩] else []
def segsFrom (sf st : Int) : Int → Int → List S120 → List S148
 | a, o, [] => clipS sf st a 52596000 o
 | a, o, x :: r => clipS sf st a x.f0 o ++ segsFrom sf st x.f0 x.f1 r
theorem seg52 (a b o sf st : Int) (gs go : Nat) (base : Nat) (w0 w : World) (v : Value) (xs : List S148)
  (hs : w.heap[gs]? = some (.cells #[.int .i64 sf, .int .i64 st] 114 (0, 0))) (hg : w.heap[go]? = some (.cells #[v] 149 (0, 0)))
  (hB : Below base w0 w) (hbase : base ≤ w.heap.size) (hbg : base ≤ go) (hlen : xs.length ≤ 100)
  (hR : Kd.R k148 148 w base (fun _ => True) v xs) :
  Calls Tryz.prog 113 #[.int .i64 a, .int .i64 b, .int .i64 o, .pointer (some ⟨gs, 0, none⟩), .pointer (some ⟨go, 0, none⟩)] w (Seg52 base w0 w go v (xs ++ clipS sf st a b o)) := by
 unfold clipS
 by_cases h : mx a sf < mn b st
 ·rw [if_pos h]
  exact seg52_yes a b o sf st gs go base w0 w v xs hs hg hB hbase hbg hlen hR _ _ rfl rfl h
 ·rw [if_neg h, List.append_nil]
  exact seg52_no a b o sf st gs go base w0 w v xs hs hg hB hR _ _ rfl rfl h
theorem drop_at (l : List S120) (i : Int) (h0 : 0 ≤ i) (h1 : i < (l.length : Int)) : l.drop i.toNat = rd_T120 l i :: l.drop (i + 1).toNat := by
 have h : i.toNat < l.length := by omega
 rw [List.drop_eq_getElem_cons h, show (i + 1).toNat = i.toNat + 1 from by omega]
 unfold rd_T120
 rw [List.getD_eq_getElem?_getD, List.getElem?_eq_getElem h]
 rfl
theorem clipS_len (sf st a b o : Int) : (clipS sf st a b o).length ≤ 1 := by unfold clipS; split <;> simp
set_option maxHeartbeats 2000000 in
set_option maxRecDepth 100000 in
theorem segs36 (a0_0 : ByteArray) (a0_1 : Int) (A0_2 : Option Addr) (c0_2 : Nat) (l0_2 : List (S120)) (a1_0 : Int) (a1_1 : Int) (w : World) (hr0_2 : Kd.C k120 w A0_2 l0_2.length l0_2) (hc0_2 : l0_2.length ≤ c0_2) (hlen : l0_2.length ≤ 90) :
  Calls Tryz.prog 91 #[.agg #[.string a0_0, .int .i64 a0_1, .slice A0_2 l0_2.length c0_2], .agg #[.int .i64 a1_0, .int .i64 a1_1]] w fun e w' => ∃ v0_ : Value, e = .returned (v0_) ∧ Kd.R k148 148 w' w.heap.size (fun _ => True) v0_ (segsFrom a1_0 a1_1 0 a0_1 l0_2) ∧ Below w.heap.size w w' := by
 have hu83 := Tryz.underlying83
 have hu114 := Tryz.underlying114
 have hu120 := Tryz.underlying120
 have HR := Aside0.mk hr0_2
 have HC := Aside0.mk hc0_2
 have HL := Aside0.mk hlen
 clear hr0_2 hc0_2 hlen
 go_enter Tryz.func91, Tryz.ntmps91
 go_wp2
 go_quiet (fail)
 go_wp2_with fail
 go_loopw [7, 8, 17] (fun v7 v8 v17 wr => ∃ (i fr off : Int) (xs : List S148) (v : Value), v17 = .int .i64 i ∧ v7 = .int .i64 fr ∧ v8 = .int .i64 off ∧ 0 ≤ i ∧ i ≤ (l0_2.length : Int) ∧ Aside0 (xs ++ segsFrom a1_0 a1_1 fr off (l0_2.drop i.toNat) = segsFrom a1_0 a1_1 0 a0_1 l0_2) ∧ Aside0 ((xs.length : Int) ≤ i) ∧ Aside0 (Below w.heap.size w wr) ∧ Aside0 (wr.heap[w.heap.size + 1]? = some (.cells #[.int .i64 a1_0, .int .i64 a1_1] 114 (0, 0))) ∧ Aside0 (wr.heap[w.heap.size + 1 + 1]? = some (.cells #[v] 149 (0, 0))) ∧ Aside0 (Kd.R k148 148 wr w.heap.size (fun _ => True) v xs)) (fun _ _ v17 _ => (l0_2.length - intOf v17).toNat)
 case atStart =>
  refine ⟨0, 0, a0_1, [], .slice none 0 0, rfl, rfl, rfl, by omega, by omega, ⟨rfl⟩, ⟨by simp⟩, ⟨?_⟩, ⟨?_⟩, ⟨?_⟩, ⟨Kd.R_nil _ _ _ _ _⟩⟩
  ·exact pw_below_drewN (below_alloc (below_alloc (below_alloc (Below.refl _ _) _) _) _) _
  ·refine blk_drewN (blk_alloc ?_ _) _
   simpa using heap_alloc_new (w.alloc (.cells #[.string a0_0, .int .i64 a0_1, .slice A0_2 l0_2.length c0_2] 83)) (.cells #[.int .i64 a1_0, .int .i64 a1_1] 114)
  ·refine blk_drewN ?_ _
   simpa using heap_alloc_new ((w.alloc (.cells #[.string a0_0, .int .i64 a0_1, .slice A0_2 l0_2.length c0_2] 83)).alloc (.cells #[.int .i64 a1_0, .int .i64 a1_1] 114)) (.cells #[.slice none 0 0] 149)
 case round =>
  obtain ⟨i, fr, off, xs, v, rfl, rfl, rfl, hi0, hi1, HX, HXL, HB, HS, HG, HO⟩ := hrel
  by_cases hlt : i < (l0_2.length : Int)
  ·have b1 : decide (i < (l0_2.length : Int)) = true := decide_eq_true hlt
   obtain ⟨ad, e, hc0, hc1⟩ := at_T120 (Kd.C_below HR.out HB.out) i hi0 hlt
   subst e
   have HI := Aside0.mk (And.intro hi0 hlt)
   have p0 := eq_true hi0
   have q0 := eq_true hlt
   have hi9 : i < 90 := by have := HL.out; omega
   clear hi1 hlt
   go_wp2_with fail
   refine (seg52 fr (rd_T120 l0_2 i).f0 off a1_0 a1_1 (w.heap.size + 1) (w.heap.size + 1 + 1) w.heap.size w _ v xs ?hs ?hg ?hB ?hb ?hbg ?hl ?hR).mono ?_
   case hs => exact blk_alloc HS.out _
   case hg => exact blk_alloc HG.out _
   case hB => exact below_alloc HB.out _
   case hb => have := HB.out.size; simp; omega
   case hbg => omega
   case hl => have := HXL.out; have := HI.out; have := HL.out; omega
   case hR => exact Kd.R_alloc HO.out _
   rintro e w1 ⟨rfl, hB1, ⟨v1, hG1, hO1⟩, hsz, hkeep⟩
   have HXB : w1.heap[wr.heap.size]? = some (.cells #[.int .i64 (rd_T120 l0_2 i).f0, .int .i64 (rd_T120 l0_2 i).f1] 120 (0, 0)) := by
    have h0 : (wr.alloc (.cells #[.int .i64 (rd_T120 l0_2 i).f0, .int .i64 (rd_T120 l0_2 i).f1] 120)).heap[wr.heap.size]? = some (.cells #[.int .i64 (rd_T120 l0_2 i).f0, .int .i64 (rd_T120 l0_2 i).f1] 120 (0, 0)) := by simpa using heap_alloc_new wr (.cells #[.int .i64 (rd_T120 l0_2 i).f0, .int .i64 (rd_T120 l0_2 i).f1] 120)
    rw [hkeep wr.heap.size (by simp) (by have := blk_lt HG.out; omega) (Kd.R_ne (Kd.R_alloc HO.out _) h0 (by decide))]
    exact h0
   have hx0 : w1.cell? ⟨wr.heap.size, 0, none⟩ = some (.int .i64 (rd_T120 l0_2 i).f0) := (blk_cell HXB 0).trans rfl
   have hx1 : w1.cell? ⟨wr.heap.size, 1, none⟩ = some (.int .i64 (rd_T120 l0_2 i).f1) := (blk_cell HXB 1).trans rfl
   have HS1 : Aside0 (w1.heap[w.heap.size + 1]? = some (.cells #[.int .i64 a1_0, .int .i64 a1_1] 114 (0, 0))) := ⟨by
    rw [hkeep (w.heap.size + 1) (by have := blk_lt HS.out; simp; omega) (by omega) (Kd.R_ne (Kd.R_alloc HO.out (.cells #[.int .i64 (rd_T120 l0_2 i).f0, .int .i64 (rd_T120 l0_2 i).f1] 120)) (blk_alloc HS.out _) (by decide))]
    exact blk_alloc HS.out _⟩
   have HG1 := Aside0.mk hG1
   have HO1 := Aside0.mk hO1
   have HB1 := Aside0.mk hB1
   clear hG1 hO1 hB1 hsz hkeep HXB hc0 hc1
   go_wp2_with fail
   go_quiet (fail)
   go_wp2_with fail
   go_roundw
   case rel =>
    refine ⟨i + 1, (rd_T120 l0_2 i).f0, (rd_T120 l0_2 i).f1, xs ++ clipS a1_0 a1_1 fr (rd_T120 l0_2 i).f0 off, v1, ?_, rfl, rfl, ?_, ?_, ?_, ?_, ?_, ?_, ?_, ?_⟩
    ·rfl
    ·omega
    ·have := HI.out; omega
    ·refine ⟨?_⟩
     rw [← HX.out, drop_at l0_2 i HI.out.1 HI.out.2]
     simp only [segsFrom, List.append_assoc]
    ·refine ⟨?_⟩
     have h1 := clipS_len a1_0 a1_1 fr (rd_T120 l0_2 i).f0 off
     have h2 := HXL.out
     rw [List.length_append]
     omega
    ·exact ⟨pw_below_drewN HB1.out _⟩
    ·exact ⟨blk_drewN HS1.out _⟩
    ·exact ⟨blk_drewN HG1.out _⟩
    ·exact ⟨Kd.R_drewN HO1.out _⟩
   case measure => have := HI.out; simp [intOf]; omega
  ·have b1 : decide (i < (l0_2.length : Int)) = false := decide_eq_false hlt
   have he : i.toNat = l0_2.length := by omega
   have HE := Aside0.mk he
   have HI := Aside0.mk hi1
   clear he hlt hi0 hi1
   go_wp2_with fail
   refine (seg52 fr 52596000 off a1_0 a1_1 (w.heap.size + 1) (w.heap.size + 1 + 1) w.heap.size w _ v xs ?hs ?hg ?hB ?hb ?hbg ?hl ?hR).mono ?_
   case hs => exact HS.out
   case hg => exact HG.out
   case hB => exact HB.out
   case hb => exact HB.out.size
   case hbg => omega
   case hl => have := HXL.out; have := HI.out; have := HL.out; omega
   case hR => exact HO.out
   rintro e w1 ⟨rfl, hB1, ⟨v1, hG1, hO1⟩, hsz, hkeep⟩
   have hx0 : w1.cell? ⟨w.heap.size + 1 + 1, 0, none⟩ = some v1 := (blk_cell hG1 0).trans rfl
   have HO1 := Aside0.mk hO1
   have HB1 := Aside0.mk hB1
   clear hG1 hO1 hB1 hsz hkeep
   go_wp2_with fail
   go_ret
   refine ⟨v1, rfl, ?_, HB1.out⟩
   have h1 := HX.out
   rw [HE.out, List.drop_length] at h1
   simp only [segsFrom] at h1
   rw [← h1]
   exact HO1.out
def zone_segments.f (a0_0 : ByteArray) (a0_1 : Int) (l0_2 : List (S120)) (a1_0 : Int) (a1_1 : Int) : Option (List (S148)) := if l0_2.length ≤ 90 then some (segsFrom a1_0 a1_1 0 a0_1 l0_2) else none
theorem zone_segments.calls (a0_0 : ByteArray) (a0_1 : Int) (A0_2 : Option Addr) (c0_2 : Nat) (l0_2 : List (S120)) (a1_0 : Int) (a1_1 : Int) (r : List (S148)) (w : World) (hr0_2 : Kd.C k120 w A0_2 l0_2.length l0_2) (hc0_2 : l0_2.length ≤ c0_2) (h : zone_segments.f a0_0 a0_1 l0_2 a1_0 a1_1 = some r) :
  Calls Tryz.prog 91 #[.agg #[.string a0_0, .int .i64 a0_1, .slice A0_2 l0_2.length c0_2], .agg #[.int .i64 a1_0, .int .i64 a1_1]] w fun e w' => ∃ v0_ : Value, e = .returned (v0_) ∧ Kd.R k148 148 w' w.heap.size (fun _ => True) v0_ r ∧ Below w.heap.size w w' := by
 unfold zone_segments.f at h
 by_cases hl : l0_2.length ≤ 90
 ·rw [if_pos hl] at h
  obtain rfl := Option.some.inj h
  exact segs36 a0_0 a0_1 A0_2 c0_2 l0_2 a1_0 a1_1 w hr0_2 hc0_2 hl
 ·rw [if_neg hl] at h
  cases h
end Go.Proofs.YtilnppdognejbaaGreatDoor.P
namespace Go.Proofs.YtilnppdognejbaaGreatDoor.P
open Go.RowKit Go.Proofs.YtilnppdognejbaaGreatDoorW.PrintWords Go.Proofs.YtilnppdognejbaaGreatDoorW.PrintLast Go.Proofs.YtilnppdognejbaaGreatDoorW.PrintMore
attribute [local go_sem] max2_int min2_int max_two min_two max_three min_three max_four min_four   -- for this text's walks alone
set_option linter.unusedVariables false
set_option linter.unusedSimpArgs false
def zone_width.f (a0 : Int) (a1 : Int) : Option (Int) := some (Int.tmod (wrap64 ((wrap64 (a1 - a0)) + 1440)) 1440)
set_option maxHeartbeats 8000000 in
set_option maxRecDepth 100000 in
theorem zone_width.calls (a0 : Int) (a1 : Int) (r : Int) (w : World) (h : zone_width.f a0 a1 = some r) :
  Calls Tryz.prog 112 #[.int .i64 a0, .int .i64 a1] w fun e w' => e = .returned (.int .i64 r) ∧ Drawn0 w w' := by
 have H : (some (Int.tmod (wrap64 ((wrap64 (a1 - a0)) + 1440)) 1440)) = some r := h
 clear h
 obtain rfl := Option.some.inj H
 go_enter Tryz.func112, Tryz.ntmps112
 go_wp2
 go_ret
 exact ⟨by first | rfl | (simp; done) | (simp [*]; done), by repeat (first | exact Drawn0.refl _ | apply Drawn0.step)⟩
end Go.Proofs.YtilnppdognejbaaGreatDoor.P
namespace Go.Proofs.YtilnppdognejbaaGreatDoor.P
open Go.RowKit Go.Proofs.YtilnppdognejbaaGreatDoorW.PrintWords Go.Proofs.YtilnppdognejbaaGreatDoorW.PrintLast Go.Proofs.YtilnppdognejbaaGreatDoorW.PrintMore
attribute [local go_sem] max2_int min2_int max_two min_two max_three min_three max_four min_four   -- for this text's walks alone
set_option linter.unusedVariables false
set_option linter.unusedSimpArgs false
mutual
def zone_bands.l0 : Nat → Int → List (S114) → Int → List (S148) → Int → Int → Option ((List (S114)))
 | 0, _, _, _, _, _, _ => none
 | k + 1, x2, x9, x10, x26, x27, x28 => if x28 < x27 then (if 0 ≤ x28 then (if x28 < (x26.length : Int) then ((calendar_SplitMinute.f (wrap64 ((wrap64 (((rd_T148 x26 x28).f0) + ((rd_T148 x26 x28).f2))) - x2))).bind fun bt219 => (zone_bands.l1 k x2 x9 x10 (wrap64 (((rd_T148 x26 x28).f0) - bt219.2)) x26 x27 x28 ((rd_T148 x26 x28).f0) ((rd_T148 x26 x28).f1) ((rd_T148 x26 x28).f2))) else (none)) else (none)) else (some x9)
def zone_bands.l1 : Nat → Int → List (S114) → Int → Int → List (S148) → Int → Int → Int → Int → Int → Option ((List (S114)))
 | 0, _, _, _, _, _, _, _, _, _, _ => none
 | k + 1, x2, x9, x10, x15, x26, x27, x28, x219000, x219001, x219002 => if x15 < x219001 then (if (mx x15 x219000) ≥ (mn (wrap64 (x15 + x10)) x219001) then (zone_bands.l1 k x2 x9 x10 (wrap64 (x15 + 1440)) x26 x27 x28 x219000 x219001 x219002) else (if (wrap64 ((x9.length : Int) - 1)) ≥ 0 then (if 0 ≤ (wrap64 ((x9.length : Int) - 1)) then (if (wrap64 ((x9.length : Int) - 1)) < (x9.length : Int) then (if ((rd_T114 x9 (wrap64 ((x9.length : Int) - 1))).f1) = (mx x15 x219000) then (zone_bands.l1 k x2 (x9.set ((wrap64 ((x9.length : Int) - 1)) : Int).toNat (⟨(rd_T114 x9 (wrap64 ((x9.length : Int) - 1))).f0, mn (wrap64 (x15 + x10)) x219001⟩ : S114)) x10 (wrap64 (x15 + 1440)) x26 x27 x28 x219000 x219001 x219002) else (if x9.length < 8796093022208 then (zone_bands.l1 k x2 (x9 ++ [(⟨mx x15 x219000, mn (wrap64 (x15 + x10)) x219001⟩ : S114)]) x10 (wrap64 (x15 + 1440)) x26 x27 x28 x219000 x219001 x219002) else (none))) else (none)) else (none)) else (if x9.length < 8796093022208 then (zone_bands.l1 k x2 (x9 ++ [(⟨mx x15 x219000, mn (wrap64 (x15 + x10)) x219001⟩ : S114)]) x10 (wrap64 (x15 + 1440)) x26 x27 x28 x219000 x219001 x219002) else (none)))) else (zone_bands.l0 k x2 x9 x10 x26 x27 (wrap64 (x28 + 1)))
end
def zone_bands.f (k : Nat) (a0_0 : ByteArray) (a0_1 : Int) (l0_2 : List (S120)) (a1_0 : Int) (a1_1 : Int) (a2 : Int) (a3 : Int) : Option ((List (S114))) := (zone_width.f a2 a3).bind fun t213 => (if t213 = 0 then (some ([] : List (S114))) else ((zone_segments.f a0_0 a0_1 l0_2 a1_0 a1_1).bind fun t214 => (zone_bands.l0 k a2 ([] : List (S114)) t213 t214 (t214.length : Int) 0)))
set_option maxHeartbeats 8000000 in
set_option maxRecDepth 100000 in
theorem zone_bands.calls (k : Nat) (a0_0 : ByteArray) (a0_1 : Int) (A0_2 : Option Addr) (c0_2 : Nat) (l0_2 : List (S120)) (a1_0 : Int) (a1_1 : Int) (a2 : Int) (a3 : Int) (r : List (S114)) (w : World) (hr0_2 : Kd.C k120 w A0_2 l0_2.length l0_2) (hc0_2 : l0_2.length ≤ c0_2) (h : zone_bands.f k a0_0 a0_1 l0_2 a1_0 a1_1 a2 a3 = some r) :
  Calls Tryz.prog 90 #[.agg #[.string a0_0, .int .i64 a0_1, .slice A0_2 l0_2.length c0_2], .agg #[.int .i64 a1_0, .int .i64 a1_1], .int .i64 a2, .int .i64 a3] w fun e w' => ∃ v0_ : Value, e = .returned (v0_) ∧ Kd.R k114 114 w' w.heap.size (fun _ => True) v0_ r ∧ Below w.heap.size w w' := by
 have hu83 := Tryz.underlying83
 have hu114 := Tryz.underlying114
 have hu148 := Tryz.underlying148
 have HR0_2 := Aside0.mk hr0_2
 have HC0_2 := Aside0.mk hc0_2
 clear hr0_2 hc0_2
 have HB := Aside0.mk (Below.refl w.heap.size w)
 have H : ((zone_width.f a2 a3).bind fun t213 => (if t213 = 0 then (some ([] : List (S114))) else ((zone_segments.f a0_0 a0_1 l0_2 a1_0 a1_1).bind fun t214 => (zone_bands.l0 k a2 ([] : List (S114)) t213 t214 (t214.length : Int) 0)))) = some r := h
 clear h
 replace H := Option.bind_eq_some_iff.mp H
 obtain ⟨t213, A50, H⟩ := H
 replace H : (if t213 = 0 then (some ([] : List (S114))) else ((zone_segments.f a0_0 a0_1 l0_2 a1_0 a1_1).bind fun t214 => (zone_bands.l0 k a2 ([] : List (S114)) t213 t214 (t214.length : Int) 0))) = some r := H
 have A5 := Aside0.mk A50
 clear A50
 by_cases c6 : t213 = 0
 ·rw [if_pos c6] at H
  have c6b0 : (t213 == 0) = true := beq_iff_eq.mpr c6
  have c6b1 : (t213 != 0) = false := bne_eq_false_iff_eq.mpr c6
  clear c6
  obtain rfl := Option.some.inj H
  go_enter Tryz.func90, Tryz.ntmps90
  go_wp2_with (first | ((with_reducible refine gate_dst (N := 4) rfl ?_); refine box_event ?hg (N := 4) ?hd (cs := #[.string a0_0, .int .i64 a0_1, .slice A0_2 l0_2.length c0_2]) (t := 83) ?hr ?_; (case hd => rfl); (case hg => rfl); (case hr => first | (go_simp; done) | (go_simp; rfl)); intro gb211 hg w7 hbox hb; have BK211 := Aside0.mk hbox; have GE211 := Aside0.mk ((by rw [hg]; exact (below_size hbk) : w.heap.size ≤ gb211)); replace HB := Aside0.mk (below_step hbk hb); clear hb hbox hg) | ((with_reducible refine gate_dst (N := 5) rfl ?_); refine box_event ?hg (N := 5) ?hd (cs := #[.int .i64 a1_0, .int .i64 a1_1]) (t := 114) ?hr ?_; (case hd => rfl); (case hg => rfl); (case hr => first | (go_simp; done) | (go_simp; rfl)); intro gb212 hg w8 hbox hb; have BK212 := Aside0.mk hbox; have GE212 := Aside0.mk ((by rw [hg]; exact (below_size hbk) : w.heap.size ≤ gb212)); have NB211_212 := Aside0.mk ((by rw [hg]; exact Nat.ne_of_lt (blk_ltB BK211.out) : gb211 ≠ gb212)); have NB212_211 := Aside0.mk ((by rw [hg]; exact Nat.ne_of_gt (blk_ltB BK211.out) : gb212 ≠ gb211)); replace BK211 := Aside0.mk (blk_belowB BK211.out hb); replace HB := Aside0.mk (below_step hbk hb); clear hb hbox hg) | (go_at_call 112; (with_reducible refine (zone_width.calls a2 a3 t213 _ A5.out).mono ?_); rintro e w' ⟨rfl, ⟨nd, rfl⟩⟩; (try first | exact ⟨rfl, _, World.drewN_drewN _ _ _⟩ | exact ⟨rfl, _, Eq.trans (World.drewN_drewN _ _ _) (congrArg (World.drewN _) (Nat.add_assoc _ _ _))⟩)))
  repeat (go_quiet (first | ((with_reducible refine gate_dst (N := 4) rfl ?_); refine box_event ?hg (N := 4) ?hd (cs := #[.string a0_0, .int .i64 a0_1, .slice A0_2 l0_2.length c0_2]) (t := 83) ?hr ?_; (case hd => rfl); (case hg => rfl); (case hr => first | (go_simp; done) | (go_simp; rfl)); intro gb211 hg w7 hbox hb; have BK211 := Aside0.mk hbox; have GE211 := Aside0.mk ((by rw [hg]; exact (below_size hbk) : w.heap.size ≤ gb211)); replace HB := Aside0.mk (below_step hbk hb); clear hb hbox hg) | ((with_reducible refine gate_dst (N := 5) rfl ?_); refine box_event ?hg (N := 5) ?hd (cs := #[.int .i64 a1_0, .int .i64 a1_1]) (t := 114) ?hr ?_; (case hd => rfl); (case hg => rfl); (case hr => first | (go_simp; done) | (go_simp; rfl)); intro gb212 hg w8 hbox hb; have BK212 := Aside0.mk hbox; have GE212 := Aside0.mk ((by rw [hg]; exact (below_size hbk) : w.heap.size ≤ gb212)); have NB211_212 := Aside0.mk ((by rw [hg]; exact Nat.ne_of_lt (blk_ltB BK211.out) : gb211 ≠ gb212)); have NB212_211 := Aside0.mk ((by rw [hg]; exact Nat.ne_of_gt (blk_ltB BK211.out) : gb212 ≠ gb211)); replace BK211 := Aside0.mk (blk_belowB BK211.out hb); replace HB := Aside0.mk (below_step hbk hb); clear hb hbox hg) | (go_at_call 112; (with_reducible refine (zone_width.calls a2 a3 t213 _ A5.out).mono ?_); rintro e w' ⟨rfl, ⟨nd, rfl⟩⟩; (try first | exact ⟨rfl, _, World.drewN_drewN _ _ _⟩ | exact ⟨rfl, _, Eq.trans (World.drewN_drewN _ _ _) (congrArg (World.drewN _) (Nat.add_assoc _ _ _))⟩))); try go_wp2_with (first | ((with_reducible refine gate_dst (N := 4) rfl ?_); refine box_event ?hg (N := 4) ?hd (cs := #[.string a0_0, .int .i64 a0_1, .slice A0_2 l0_2.length c0_2]) (t := 83) ?hr ?_; (case hd => rfl); (case hg => rfl); (case hr => first | (go_simp; done) | (go_simp; rfl)); intro gb211 hg w7 hbox hb; have BK211 := Aside0.mk hbox; have GE211 := Aside0.mk ((by rw [hg]; exact (below_size hbk) : w.heap.size ≤ gb211)); replace HB := Aside0.mk (below_step hbk hb); clear hb hbox hg) | ((with_reducible refine gate_dst (N := 5) rfl ?_); refine box_event ?hg (N := 5) ?hd (cs := #[.int .i64 a1_0, .int .i64 a1_1]) (t := 114) ?hr ?_; (case hd => rfl); (case hg => rfl); (case hr => first | (go_simp; done) | (go_simp; rfl)); intro gb212 hg w8 hbox hb; have BK212 := Aside0.mk hbox; have GE212 := Aside0.mk ((by rw [hg]; exact (below_size hbk) : w.heap.size ≤ gb212)); have NB211_212 := Aside0.mk ((by rw [hg]; exact Nat.ne_of_lt (blk_ltB BK211.out) : gb211 ≠ gb212)); have NB212_211 := Aside0.mk ((by rw [hg]; exact Nat.ne_of_gt (blk_ltB BK211.out) : gb212 ≠ gb211)); replace BK211 := Aside0.mk (blk_belowB BK211.out hb); replace HB := Aside0.mk (below_step hbk hb); clear hb hbox hg) | (go_at_call 112; (with_reducible refine (zone_width.calls a2 a3 t213 _ A5.out).mono ?_); rintro e w' ⟨rfl, ⟨nd, rfl⟩⟩; (try first | exact ⟨rfl, _, World.drewN_drewN _ _ _⟩ | exact ⟨rfl, _, Eq.trans (World.drewN_drewN _ _ _) (congrArg (World.drewN _) (Nat.add_assoc _ _ _))⟩))))
  go_ret
  exact ⟨_, hrf, by first | exact Kd.R_nil _ _ _ _ _ | exact Kd.N_nil _ _ _ _ _ | exact Kd.V_nil _ _ _ _ _ | exact Kd.Q_nil _ _ _ _ _ | exact Kd.S_nil _ _ _ _ _, hbk⟩
 ·rw [if_neg c6] at H
  have c6b0 : (t213 == 0) = false := beq_eq_false_iff_ne.mpr c6
  have c6b1 : (t213 != 0) = true := bne_iff_ne.mpr c6
  replace H := Option.bind_eq_some_iff.mp H
  obtain ⟨t214, A90, H⟩ := H
  replace H : (zone_bands.l0 k a2 ([] : List (S114)) t213 t214 (t214.length : Int) 0) = some r := H
  have A9 := Aside0.mk A90
  clear A90
  have H' := Aside0.mk H
  clear H
  go_enter Tryz.func90, Tryz.ntmps90
  go_wp2_with (first | ((with_reducible refine gate_dst (N := 4) rfl ?_); refine box_event ?hg (N := 4) ?hd (cs := #[.string a0_0, .int .i64 a0_1, .slice A0_2 l0_2.length c0_2]) (t := 83) ?hr ?_; (case hd => rfl); (case hg => rfl); (case hr => first | (go_simp; done) | (go_simp; rfl)); intro gb211 hg w10 hbox hb; have BK211 := Aside0.mk hbox; have GE211 := Aside0.mk ((by rw [hg]; exact (below_size hbk) : w.heap.size ≤ gb211)); replace HB := Aside0.mk (below_step hbk hb); clear hb hbox hg) | ((with_reducible refine gate_dst (N := 5) rfl ?_); refine box_event ?hg (N := 5) ?hd (cs := #[.int .i64 a1_0, .int .i64 a1_1]) (t := 114) ?hr ?_; (case hd => rfl); (case hg => rfl); (case hr => first | (go_simp; done) | (go_simp; rfl)); intro gb212 hg w11 hbox hb; have BK212 := Aside0.mk hbox; have GE212 := Aside0.mk ((by rw [hg]; exact (below_size hbk) : w.heap.size ≤ gb212)); have NB211_212 := Aside0.mk ((by rw [hg]; exact Nat.ne_of_lt (blk_ltB BK211.out) : gb211 ≠ gb212)); have NB212_211 := Aside0.mk ((by rw [hg]; exact Nat.ne_of_gt (blk_ltB BK211.out) : gb212 ≠ gb211)); replace BK211 := Aside0.mk (blk_belowB BK211.out hb); replace HB := Aside0.mk (below_step hbk hb); clear hb hbox hg) | (go_at_call 112; (with_reducible refine (zone_width.calls a2 a3 t213 _ A5.out).mono ?_); rintro e w' ⟨rfl, ⟨nd, rfl⟩⟩; (try first | exact ⟨rfl, _, World.drewN_drewN _ _ _⟩ | exact ⟨rfl, _, Eq.trans (World.drewN_drewN _ _ _) (congrArg (World.drewN _) (Nat.add_assoc _ _ _))⟩); have hnb12 := NB211_212.out; have hnc12 := NB212_211.out; obtain ⟨hcz13_0, hcz13_1, hcz13_2⟩ := blk_cs3 BK211.out; obtain ⟨hfz13_0, hfz13_1, hfz13_2⟩ := blk_fs3 BK211.out; obtain ⟨hcz14_0, hcz14_1⟩ := blk_cs2 BK212.out; obtain ⟨hfz14_0, hfz14_1⟩ := blk_fs2 BK212.out) | (go_at_call 91; (with_reducible refine (zone_segments.calls a0_0 a0_1 _ _ l0_2 a1_0 a1_1 t214 _ ?side1 ?side2 A9.out).mono ?_); (case side1 => exact Kd.C_below HR0_2.out hbk); (case side2 => exact HC0_2.out); rintro e w15 ⟨v215, rfl, ho0, hb⟩; have HO216 := Aside0.mk (Kd.R_lower ho0 (below_size hbk)); replace BK211 := Aside0.mk (blk_belowB BK211.out hb); replace BK212 := Aside0.mk (blk_belowB BK212.out hb); replace HB := Aside0.mk (below_step hbk hb); (try clear hb); (try clear hb2); (try clear hk); (try clear hi); (try clear ho0); obtain ⟨Ao16, co16, eo16⟩ := Kd.R_slice HO216.out; subst eo16))
  repeat (go_quiet (first | ((with_reducible refine gate_dst (N := 4) rfl ?_); refine box_event ?hg (N := 4) ?hd (cs := #[.string a0_0, .int .i64 a0_1, .slice A0_2 l0_2.length c0_2]) (t := 83) ?hr ?_; (case hd => rfl); (case hg => rfl); (case hr => first | (go_simp; done) | (go_simp; rfl)); intro gb211 hg w10 hbox hb; have BK211 := Aside0.mk hbox; have GE211 := Aside0.mk ((by rw [hg]; exact (below_size hbk) : w.heap.size ≤ gb211)); replace HB := Aside0.mk (below_step hbk hb); clear hb hbox hg) | ((with_reducible refine gate_dst (N := 5) rfl ?_); refine box_event ?hg (N := 5) ?hd (cs := #[.int .i64 a1_0, .int .i64 a1_1]) (t := 114) ?hr ?_; (case hd => rfl); (case hg => rfl); (case hr => first | (go_simp; done) | (go_simp; rfl)); intro gb212 hg w11 hbox hb; have BK212 := Aside0.mk hbox; have GE212 := Aside0.mk ((by rw [hg]; exact (below_size hbk) : w.heap.size ≤ gb212)); have NB211_212 := Aside0.mk ((by rw [hg]; exact Nat.ne_of_lt (blk_ltB BK211.out) : gb211 ≠ gb212)); have NB212_211 := Aside0.mk ((by rw [hg]; exact Nat.ne_of_gt (blk_ltB BK211.out) : gb212 ≠ gb211)); replace BK211 := Aside0.mk (blk_belowB BK211.out hb); replace HB := Aside0.mk (below_step hbk hb); clear hb hbox hg) | (go_at_call 112; (with_reducible refine (zone_width.calls a2 a3 t213 _ A5.out).mono ?_); rintro e w' ⟨rfl, ⟨nd, rfl⟩⟩; (try first | exact ⟨rfl, _, World.drewN_drewN _ _ _⟩ | exact ⟨rfl, _, Eq.trans (World.drewN_drewN _ _ _) (congrArg (World.drewN _) (Nat.add_assoc _ _ _))⟩); have hnb12 := NB211_212.out; have hnc12 := NB212_211.out; obtain ⟨hcz13_0, hcz13_1, hcz13_2⟩ := blk_cs3 BK211.out; obtain ⟨hfz13_0, hfz13_1, hfz13_2⟩ := blk_fs3 BK211.out; obtain ⟨hcz14_0, hcz14_1⟩ := blk_cs2 BK212.out; obtain ⟨hfz14_0, hfz14_1⟩ := blk_fs2 BK212.out) | (go_at_call 91; (with_reducible refine (zone_segments.calls a0_0 a0_1 _ _ l0_2 a1_0 a1_1 t214 _ ?side1 ?side2 A9.out).mono ?_); (case side1 => exact Kd.C_below HR0_2.out hbk); (case side2 => exact HC0_2.out); rintro e w15 ⟨v215, rfl, ho0, hb⟩; have HO216 := Aside0.mk (Kd.R_lower ho0 (below_size hbk)); replace BK211 := Aside0.mk (blk_belowB BK211.out hb); replace BK212 := Aside0.mk (blk_belowB BK212.out hb); replace HB := Aside0.mk (below_step hbk hb); (try clear hb); (try clear hb2); (try clear hk); (try clear hi); (try clear ho0); obtain ⟨Ao16, co16, eo16⟩ := Kd.R_slice HO216.out; subst eo16)); try go_wp2_with (first | ((with_reducible refine gate_dst (N := 4) rfl ?_); refine box_event ?hg (N := 4) ?hd (cs := #[.string a0_0, .int .i64 a0_1, .slice A0_2 l0_2.length c0_2]) (t := 83) ?hr ?_; (case hd => rfl); (case hg => rfl); (case hr => first | (go_simp; done) | (go_simp; rfl)); intro gb211 hg w10 hbox hb; have BK211 := Aside0.mk hbox; have GE211 := Aside0.mk ((by rw [hg]; exact (below_size hbk) : w.heap.size ≤ gb211)); replace HB := Aside0.mk (below_step hbk hb); clear hb hbox hg) | ((with_reducible refine gate_dst (N := 5) rfl ?_); refine box_event ?hg (N := 5) ?hd (cs := #[.int .i64 a1_0, .int .i64 a1_1]) (t := 114) ?hr ?_; (case hd => rfl); (case hg => rfl); (case hr => first | (go_simp; done) | (go_simp; rfl)); intro gb212 hg w11 hbox hb; have BK212 := Aside0.mk hbox; have GE212 := Aside0.mk ((by rw [hg]; exact (below_size hbk) : w.heap.size ≤ gb212)); have NB211_212 := Aside0.mk ((by rw [hg]; exact Nat.ne_of_lt (blk_ltB BK211.out) : gb211 ≠ gb212)); have NB212_211 := Aside0.mk ((by rw [hg]; exact Nat.ne_of_gt (blk_ltB BK211.out) : gb212 ≠ gb211)); replace BK211 := Aside0.mk (blk_belowB BK211.out hb); replace HB := Aside0.mk (below_step hbk hb); clear hb hbox hg) | (go_at_call 112; (with_reducible refine (zone_width.calls a2 a3 t213 _ A5.out).mono ?_); rintro e w' ⟨rfl, ⟨nd, rfl⟩⟩; (try first | exact ⟨rfl, _, World.drewN_drewN _ _ _⟩ | exact ⟨rfl, _, Eq.trans (World.drewN_drewN _ _ _) (congrArg (World.drewN _) (Nat.add_assoc _ _ _))⟩); have hnb12 := NB211_212.out; have hnc12 := NB212_211.out; obtain ⟨hcz13_0, hcz13_1, hcz13_2⟩ := blk_cs3 BK211.out; obtain ⟨hfz13_0, hfz13_1, hfz13_2⟩ := blk_fs3 BK211.out; obtain ⟨hcz14_0, hcz14_1⟩ := blk_cs2 BK212.out; obtain ⟨hfz14_0, hfz14_1⟩ := blk_fs2 BK212.out) | (go_at_call 91; (with_reducible refine (zone_segments.calls a0_0 a0_1 _ _ l0_2 a1_0 a1_1 t214 _ ?side1 ?side2 A9.out).mono ?_); (case side1 => exact Kd.C_below HR0_2.out hbk); (case side2 => exact HC0_2.out); rintro e w15 ⟨v215, rfl, ho0, hb⟩; have HO216 := Aside0.mk (Kd.R_lower ho0 (below_size hbk)); replace BK211 := Aside0.mk (blk_belowB BK211.out hb); replace BK212 := Aside0.mk (blk_belowB BK212.out hb); replace HB := Aside0.mk (below_step hbk hb); (try clear hb); (try clear hb2); (try clear hk); (try clear hi); (try clear ho0); obtain ⟨Ao16, co16, eo16⟩ := Kd.R_slice HO216.out; subst eo16)))
  go_loopg [9, 28] k (fun kq v9 v28 w' => ∃ (x9_1 : List (S114)) (x28_1 : Int) (x213001_1 : Int), v28 = .int .i64 x28_1 ∧ Aside0 (zone_bands.l0 kq a2 x9_1 t213 t214 (t214.length : Int) x28_1 = some r) ∧ Aside0 (kq ≤ k) ∧ Aside0 (Kd.R k114 114 w' w.heap.size (fun k_ => k_ ≠ gb212) v9 x9_1) ∧ Aside0 (Kd.R k148 148 w' w.heap.size (fun _ => True) (.slice Ao16 t214.length co16) t214) ∧ Aside0 (w'.heap[gb211]? = some (.cells #[.string a0_0, .int .i64 a0_1, (.slice A0_2 l0_2.length c0_2)] 83 (0, 0))) ∧ Aside0 (w'.heap[gb212]? = some (.cells #[.int .i64 a1_0, .int .i64 x213001_1] 114 (0, 0))) ∧ Aside0 (Below w.heap.size w w'))
  case atStart => exact ⟨(([] : List (S114))), (0), (a1_1), (by first | rfl | (simp; done) | (simp [*]; done)), H', ⟨Nat.le_refl _⟩, ⟨by first | exact Kd.R_nil _ _ _ _ _ | exact Kd.N_nil _ _ _ _ _ | exact Kd.V_nil _ _ _ _ _ | exact Kd.Q_nil _ _ _ _ _ | exact Kd.S_nil _ _ _ _ _⟩, ⟨by (with_reducible repeat (first | apply Kd.R_alloc | apply Kd.R_drewN | apply Kd.R_drew)); exact HO216.out⟩, ⟨by (with_reducible repeat (first | refine blk_drewN ?_ _ | refine blk_drew ?_ | refine blk_alloc ?_ _)); exact BK211.out⟩, ⟨by (with_reducible repeat (first | refine blk_drewN ?_ _ | refine blk_drew ?_ | refine blk_alloc ?_ _)); exact BK212.out⟩, ⟨hbk⟩⟩
  case round =>
   clear H'
   try clear c1
   try clear p2
   try clear c6
   try clear c6b0
   try clear c6b1
   try clear c9
   try clear c12
   try clear hcz13_0
   try clear hcz13_1
   try clear hcz13_2
   try clear hcz14_0
   try clear hcz14_1
   try clear hfz13_0
   try clear hfz13_1
   try clear hfz13_2
   try clear hfz14_0
   try clear hfz14_1
   obtain ⟨x9_1, x28_1, x213001_1, rfl, HA, HK1, HO_9, HO_26, BK211, BK212, HB⟩ := hrel
   cases gk with
   | zero => exact absurd HA.out (by simp [zone_bands.l0])
   | succ k1 =>
    have H := HA.out
    clear HA
    simp only [zone_bands.l0] at H
    by_cases c17 : x28_1 < (t214.length : Int)
    ·rw [if_pos c17] at H
     have c17b0 : decide (x28_1 < (t214.length : Int)) = true := decide_eq_true c17
     clear c17
     by_cases c18 : 0 ≤ x28_1
     ·rw [if_pos c18] at H
      have c18b0 : decide (0 ≤ x28_1) = true := decide_eq_true c18
      clear c18
      by_cases c19 : x28_1 < (t214.length : Int)
      ·rw [if_pos c19] at H
       have c19b0 : decide (x28_1 < (t214.length : Int)) = true := decide_eq_true c19
       clear c19
       replace H := Option.bind_eq_some_iff.mp H
       obtain ⟨⟨t219, t220⟩, A200, H⟩ := H
       replace H : (zone_bands.l1 k1 a2 x9_1 t213 (wrap64 (((rd_T148 t214 x28_1).f0) - t220)) t214 (t214.length : Int) x28_1 ((rd_T148 t214 x28_1).f0) ((rd_T148 t214 x28_1).f1) ((rd_T148 t214 x28_1).f2)) = some r := H
       have A20 := Aside0.mk A200
       clear A200
       have H' := Aside0.mk H
       clear H
       have p217 : 0 ≤ (x28_1 : Int) := of_decide_eq_true (by first | (with_reducible assumption) | assumption)
       have q217 : x28_1 < (t214.length : Int) := of_decide_eq_true (by first | (with_reducible assumption) | assumption)
       obtain ⟨ad217, e217, hx217_0, hx217_1, hx217_2⟩ := at_T148 (Kd.R_reads' HO_26.out).2.2 x28_1 p217 q217
       cases e217
       replace p217 := eq_true p217
       replace q217 := eq_true q217
       go_wp2_with (first | ((with_reducible refine gate_dst (N := 12) rfl ?_); refine box_event ?hg (N := 12) ?hd (cs := #[.int .i64 0, .int .i64 0, .int .i64 0]) (t := 148) ?hr ?_; (case hd => rfl); (case hg => rfl); (case hr => first | (go_simp; done) | (go_simp; rfl)); intro gb218 hg w21 hbox hb; have BK218 := Aside0.mk hbox; have GE218 := Aside0.mk ((by rw [hg]; exact (below_size hbk) : w.heap.size ≤ gb218)); have NB211_218 := Aside0.mk ((by rw [hg]; exact Nat.ne_of_lt (blk_ltB BK211.out) : gb211 ≠ gb218)); have NB218_211 := Aside0.mk ((by rw [hg]; exact Nat.ne_of_gt (blk_ltB BK211.out) : gb218 ≠ gb211)); have NB212_218 := Aside0.mk ((by rw [hg]; exact Nat.ne_of_lt (blk_ltB BK212.out) : gb212 ≠ gb218)); have NB218_212 := Aside0.mk ((by rw [hg]; exact Nat.ne_of_gt (blk_ltB BK212.out) : gb218 ≠ gb212)); replace HO_9 := Aside0.mk (Kd.R_below (by (with_reducible repeat (first | apply Kd.R_alloc | apply Kd.R_drewN | apply Kd.R_drew)); exact HO_9.out) hb); replace HO_26 := Aside0.mk (Kd.R_below (Kd.R_elderB (by (with_reducible repeat (first | apply Kd.R_alloc | apply Kd.R_drewN | apply Kd.R_drew)); exact HO_26.out) gb218 (Nat.le_of_eq hg.symm)) hb); replace BK211 := Aside0.mk (blk_belowB BK211.out hb); replace BK212 := Aside0.mk (blk_belowB BK212.out hb); replace HB := Aside0.mk (below_step hbk hb); clear hb hbox hg; have hnb22 := NB218_211.out; have hnc22 := NB211_218.out; have hnb23 := NB218_212.out; have hnc23 := NB212_218.out; obtain ⟨hcz24_0, hcz24_1, hcz24_2⟩ := blk_cs3 BK218.out; obtain ⟨hfz24_0, hfz24_1, hfz24_2⟩ := blk_fs3 BK218.out) | (go_at_call 71; (with_reducible refine (calendar_SplitMinute.calls (wrap64 ((wrap64 (((rd_T148 t214 x28_1).f0) + ((rd_T148 t214 x28_1).f2))) - a2)) t219 t220 _ A20.out).mono ?_); rintro e w' ⟨rfl, ⟨nd, rfl⟩⟩; (try first | exact ⟨rfl, _, World.drewN_drewN _ _ _⟩ | exact ⟨rfl, _, Eq.trans (World.drewN_drewN _ _ _) (congrArg (World.drewN _) (Nat.add_assoc _ _ _))⟩)))
       repeat (go_quiet (first | ((with_reducible refine gate_dst (N := 12) rfl ?_); refine box_event ?hg (N := 12) ?hd (cs := #[.int .i64 0, .int .i64 0, .int .i64 0]) (t := 148) ?hr ?_; (case hd => rfl); (case hg => rfl); (case hr => first | (go_simp; done) | (go_simp; rfl)); intro gb218 hg w21 hbox hb; have BK218 := Aside0.mk hbox; have GE218 := Aside0.mk ((by rw [hg]; exact (below_size hbk) : w.heap.size ≤ gb218)); have NB211_218 := Aside0.mk ((by rw [hg]; exact Nat.ne_of_lt (blk_ltB BK211.out) : gb211 ≠ gb218)); have NB218_211 := Aside0.mk ((by rw [hg]; exact Nat.ne_of_gt (blk_ltB BK211.out) : gb218 ≠ gb211)); have NB212_218 := Aside0.mk ((by rw [hg]; exact Nat.ne_of_lt (blk_ltB BK212.out) : gb212 ≠ gb218)); have NB218_212 := Aside0.mk ((by rw [hg]; exact Nat.ne_of_gt (blk_ltB BK212.out) : gb218 ≠ gb212)); replace HO_9 := Aside0.mk (Kd.R_below (by (with_reducible repeat (first | apply Kd.R_alloc | apply Kd.R_drewN | apply Kd.R_drew)); exact HO_9.out) hb); replace HO_26 := Aside0.mk (Kd.R_below (Kd.R_elderB (by (with_reducible repeat (first | apply Kd.R_alloc | apply Kd.R_drewN | apply Kd.R_drew)); exact HO_26.out) gb218 (Nat.le_of_eq hg.symm)) hb); replace BK211 := Aside0.mk (blk_belowB BK211.out hb); replace BK212 := Aside0.mk (blk_belowB BK212.out hb); replace HB := Aside0.mk (below_step hbk hb); clear hb hbox hg; have hnb22 := NB218_211.out; have hnc22 := NB211_218.out; have hnb23 := NB218_212.out; have hnc23 := NB212_218.out; obtain ⟨hcz24_0, hcz24_1, hcz24_2⟩ := blk_cs3 BK218.out; obtain ⟨hfz24_0, hfz24_1, hfz24_2⟩ := blk_fs3 BK218.out) | (go_at_call 71; (with_reducible refine (calendar_SplitMinute.calls (wrap64 ((wrap64 (((rd_T148 t214 x28_1).f0) + ((rd_T148 t214 x28_1).f2))) - a2)) t219 t220 _ A20.out).mono ?_); rintro e w' ⟨rfl, ⟨nd, rfl⟩⟩; (try first | exact ⟨rfl, _, World.drewN_drewN _ _ _⟩ | exact ⟨rfl, _, Eq.trans (World.drewN_drewN _ _ _) (congrArg (World.drewN _) (Nat.add_assoc _ _ _))⟩))); try go_wp2_with (first | ((with_reducible refine gate_dst (N := 12) rfl ?_); refine box_event ?hg (N := 12) ?hd (cs := #[.int .i64 0, .int .i64 0, .int .i64 0]) (t := 148) ?hr ?_; (case hd => rfl); (case hg => rfl); (case hr => first | (go_simp; done) | (go_simp; rfl)); intro gb218 hg w21 hbox hb; have n0_ := Aside0.mk (Kd.R_below (by (with_reducible repeat (first | apply Kd.R_alloc | apply Kd.R_drewN | apply Kd.R_drew)); exact HO_9.out) hb); have n1_ := Aside0.mk (Kd.R_below (Kd.R_elderB (by (with_reducible repeat (first | apply Kd.R_alloc | apply Kd.R_drewN | apply Kd.R_drew)); exact HO_26.out) gb218 (Nat.le_of_eq hg.symm)) hb); have n2_ := Aside0.mk (blk_belowB BK211.out hb); have n3_ := Aside0.mk (blk_belowB BK212.out hb); have n4_ := Aside0.mk (below_step hbk hb); have n5_ := Aside0.mk hbox; have n6_ := Aside0.mk ((by rw [hg]; exact (below_size hbk) : w.heap.size ≤ gb218)); have n7_ := Aside0.mk ((by rw [hg]; exact (below_size hbk) : w.heap.size ≤ gb218)); have n8_ := Aside0.mk ((by rw [hg]; exact Nat.ne_of_lt (blk_ltB BK211.out) : gb211 ≠ gb218)); have n9_ := Aside0.mk ((by rw [hg]; exact Nat.ne_of_gt (blk_ltB BK211.out) : gb218 ≠ gb211)); have n10_ := Aside0.mk ((by rw [hg]; exact Nat.ne_of_lt (blk_ltB BK212.out) : gb212 ≠ gb218)); have n11_ := Aside0.mk ((by rw [hg]; exact Nat.ne_of_gt (blk_ltB BK212.out) : gb218 ≠ gb212)); clear HO_9; clear HO_26; clear BK211; clear BK212; clear HB; have HO_9 := n0_; have HO_26 := n1_; have BK211 := n2_; have BK212 := n3_; have HB := n4_; have BK218 := n5_; have GW218 := n6_; have GE218 := n7_; have NB211_218 := n8_; have NB218_211 := n9_; have NB212_218 := n10_; have NB218_212 := n11_; clear n0_ n1_ n2_ n3_ n4_ n5_ n6_ n7_ n8_ n9_ n10_ n11_; clear hb hbox hg; have hnb22 := NB218_211.out; have hnc22 := NB211_218.out; have hnb23 := NB218_212.out; have hnc23 := NB212_218.out; obtain ⟨hcz24_0, hcz24_1, hcz24_2⟩ := blk_cs3 BK218.out; obtain ⟨hfz24_0, hfz24_1, hfz24_2⟩ := blk_fs3 BK218.out) | (go_at_call 71; (with_reducible refine (calendar_SplitMinute.calls (wrap64 ((wrap64 (((rd_T148 t214 x28_1).f0) + ((rd_T148 t214 x28_1).f2))) - a2)) t219 t220 _ A20.out).mono ?_); rintro e w' ⟨rfl, ⟨nd, rfl⟩⟩; (try first | exact ⟨rfl, _, World.drewN_drewN _ _ _⟩ | exact ⟨rfl, _, Eq.trans (World.drewN_drewN _ _ _) (congrArg (World.drewN _) (Nat.add_assoc _ _ _))⟩))))
       go_loopg [9, 15] k1 (fun kq v9 v15 w' => ∃ (x9_2 : List (S114)) (x15_2 : Int) (x213001_2 : Int), v15 = .int .i64 x15_2 ∧ Aside0 (zone_bands.l1 kq a2 x9_2 t213 x15_2 t214 (t214.length : Int) x28_1 ((rd_T148 t214 x28_1).f0) ((rd_T148 t214 x28_1).f1) ((rd_T148 t214 x28_1).f2) = some r) ∧ Aside0 (kq ≤ k1) ∧ Aside0 (Kd.R k114 114 w' w.heap.size (fun k_ => k_ ≠ gb212) v9 x9_2) ∧ Aside0 (Kd.R k148 148 w' w.heap.size (fun k_ => k_ ≠ gb218) (.slice (some ad217) t214.length co16) t214) ∧ Aside0 (w'.heap[gb211]? = some (.cells #[.string a0_0, .int .i64 a0_1, (.slice A0_2 l0_2.length c0_2)] 83 (0, 0))) ∧ Aside0 (w'.heap[gb212]? = some (.cells #[.int .i64 a1_0, .int .i64 x213001_2] 114 (0, 0))) ∧ Aside0 (w'.heap[gb218]? = some (.cells #[.int .i64 ((rd_T148 t214 x28_1).f0), .int .i64 ((rd_T148 t214 x28_1).f1), .int .i64 ((rd_T148 t214 x28_1).f2)] 148 (0, 0))) ∧ Aside0 (Below w.heap.size w w'))
       case atStart => exact ⟨(x9_1), (wrap64 (((rd_T148 t214 x28_1).f0) - t220)), (x213001_1), (by first | rfl | (simp; done) | (simp [*]; done)), H', ⟨Nat.le_refl _⟩, ⟨by (with_reducible repeat (first | apply Kd.R_alloc | apply Kd.R_drewN | apply Kd.R_drew)); exact Kd.R_mono (Kd.R_far (p := ⟨gb218, 2, none⟩) (Kd.R_far (p := ⟨gb218, 1, none⟩) (Kd.R_far (p := ⟨gb218, 0, none⟩) (Kd.R_types HO_9.out BK218.out (by decide)) (fun _ hk => hk.2) (.int .i64 ((rd_T148 t214 x28_1).f0))) (fun _ hk => hk.2) (.int .i64 ((rd_T148 t214 x28_1).f1))) (fun _ hk => hk.2) (.int .i64 ((rd_T148 t214 x28_1).f2))) (fun _ hk => hk.1)⟩, ⟨by (with_reducible repeat (first | apply Kd.R_alloc | apply Kd.R_drewN | apply Kd.R_drew)); exact Kd.R_mono (Kd.R_far (p := ⟨gb218, 2, none⟩) (Kd.R_far (p := ⟨gb218, 1, none⟩) (Kd.R_far (p := ⟨gb218, 0, none⟩) (Kd.R_mono HO_26.out (fun k_ hk => (⟨hk, hk.2⟩ : _ ∧ k_ ≠ gb218))) (fun _ hk => hk.2) (.int .i64 ((rd_T148 t214 x28_1).f0))) (fun _ hk => hk.2) (.int .i64 ((rd_T148 t214 x28_1).f1))) (fun _ hk => hk.2) (.int .i64 ((rd_T148 t214 x28_1).f2))) (fun _ hk => hk.1.2)⟩, ⟨by (with_reducible repeat (first | refine blk_drewN ?_ _ | refine blk_drew ?_ | refine blk_alloc ?_ _)); refine blk_far ?_ NB211_218.out _; refine blk_far ?_ NB211_218.out _; refine blk_far ?_ NB211_218.out _; (with_reducible repeat (first | refine blk_drewN ?_ _ | refine blk_drew ?_ | refine blk_alloc ?_ _)); exact BK211.out⟩, ⟨by (with_reducible repeat (first | refine blk_drewN ?_ _ | refine blk_drew ?_ | refine blk_alloc ?_ _)); refine blk_far ?_ NB212_218.out _; refine blk_far ?_ NB212_218.out _; refine blk_far ?_ NB212_218.out _; (with_reducible repeat (first | refine blk_drewN ?_ _ | refine blk_drew ?_ | refine blk_alloc ?_ _)); exact BK212.out⟩, ⟨by (with_reducible repeat (first | refine blk_drewN ?_ _ | refine blk_drew ?_ | refine blk_alloc ?_ _)); refine blk_put (cs := #[.int .i64 ((rd_T148 t214 x28_1).f0), .int .i64 ((rd_T148 t214 x28_1).f1), .int .i64 0]) ?_ 2 _ rfl; refine blk_put (cs := #[.int .i64 ((rd_T148 t214 x28_1).f0), .int .i64 0, .int .i64 0]) ?_ 1 _ rfl; refine blk_put (cs := #[.int .i64 0, .int .i64 0, .int .i64 0]) ?_ 0 _ rfl; (with_reducible repeat (first | refine blk_drewN ?_ _ | refine blk_drew ?_ | refine blk_alloc ?_ _)); exact BK218.out⟩, ⟨hbk⟩⟩
       case round =>
        clear H'
        try clear c1
        try clear c2
        try clear p2
        try clear q2
        try clear hx2
        try clear c6
        try clear c6b0
        try clear c6b1
        try clear p6
        try clear c9
        try clear c12
        try clear c17
        try clear c17b0
        try clear c18
        try clear c18b0
        try clear c19
        try clear c19b0
        try clear p21
        try clear q21
        try clear hx21
        try clear c22
        try clear c23
        try clear hcz13_0
        try clear hcz13_1
        try clear hcz13_2
        try clear hcz14_0
        try clear hcz14_1
        try clear hcz24_0
        try clear hcz24_1
        try clear hcz24_2
        try clear hfz13_0
        try clear hfz13_1
        try clear hfz13_2
        try clear hfz14_0
        try clear hfz14_1
        try clear hfz24_0
        try clear hfz24_1
        try clear hfz24_2
        try clear hx217_0
        try clear hx217_1
        try clear hx217_2
        try clear p2
        try clear p217
        try clear q217
        obtain ⟨x9_2, x15_2, x213001_2, rfl, HA, HK2, HO_9, HO_26, BK211, BK212, BK218, HB⟩ := hrel
        cases gk with
        | zero => exact absurd HA.out (by simp [zone_bands.l1])
        | succ k2 =>
         have H := HA.out
         clear HA
         simp only [zone_bands.l1] at H
         by_cases c25 : x15_2 < ((rd_T148 t214 x28_1).f1)
         ·rw [if_pos c25] at H
          have c25b0 : decide (x15_2 < ((rd_T148 t214 x28_1).f1)) = true := decide_eq_true c25
          clear c25
          obtain ⟨ji26, hji26⟩ : ∃ j_ : Int, (mx x15_2 ((rd_T148 t214 x28_1).f0)) = j_ := ⟨_, rfl⟩
          replace H : (if (ji26) ≥ (mn (wrap64 (x15_2 + t213)) ((rd_T148 t214 x28_1).f1)) then (zone_bands.l1 k2 a2 x9_2 t213 (wrap64 (x15_2 + 1440)) t214 (t214.length : Int) x28_1 ((rd_T148 t214 x28_1).f0) ((rd_T148 t214 x28_1).f1) ((rd_T148 t214 x28_1).f2)) else (if (wrap64 ((x9_2.length : Int) - 1)) ≥ 0 then (if 0 ≤ (wrap64 ((x9_2.length : Int) - 1)) then (if (wrap64 ((x9_2.length : Int) - 1)) < (x9_2.length : Int) then (if ((rd_T114 x9_2 (wrap64 ((x9_2.length : Int) - 1))).f1) = (ji26) then (zone_bands.l1 k2 a2 (x9_2.set ((wrap64 ((x9_2.length : Int) - 1)) : Int).toNat (⟨(rd_T114 x9_2 (wrap64 ((x9_2.length : Int) - 1))).f0, mn (wrap64 (x15_2 + t213)) ((rd_T148 t214 x28_1).f1)⟩ : S114)) t213 (wrap64 (x15_2 + 1440)) t214 (t214.length : Int) x28_1 ((rd_T148 t214 x28_1).f0) ((rd_T148 t214 x28_1).f1) ((rd_T148 t214 x28_1).f2)) else (if x9_2.length < 8796093022208 then (zone_bands.l1 k2 a2 (x9_2 ++ [(⟨ji26, mn (wrap64 (x15_2 + t213)) ((rd_T148 t214 x28_1).f1)⟩ : S114)]) t213 (wrap64 (x15_2 + 1440)) t214 (t214.length : Int) x28_1 ((rd_T148 t214 x28_1).f0) ((rd_T148 t214 x28_1).f1) ((rd_T148 t214 x28_1).f2)) else (none))) else (none)) else (none)) else (if x9_2.length < 8796093022208 then (zone_bands.l1 k2 a2 (x9_2 ++ [(⟨ji26, mn (wrap64 (x15_2 + t213)) ((rd_T148 t214 x28_1).f1)⟩ : S114)]) t213 (wrap64 (x15_2 + 1440)) t214 (t214.length : Int) x28_1 ((rd_T148 t214 x28_1).f0) ((rd_T148 t214 x28_1).f1) ((rd_T148 t214 x28_1).f2)) else (none)))) = some r := by first | (rw [hji26] at H; exact H) | (simp only [hji26] at H ⊢; exact H)
          have hji26_ : (if x15_2 < ((rd_T148 t214 x28_1).f0) then ((rd_T148 t214 x28_1).f0) else x15_2) = ji26 := hji26
          obtain ⟨ji27, hji27⟩ : ∃ j_ : Int, (mn (wrap64 (x15_2 + t213)) ((rd_T148 t214 x28_1).f1)) = j_ := ⟨_, rfl⟩
          replace H : (if (ji26) ≥ (ji27) then (zone_bands.l1 k2 a2 x9_2 t213 (wrap64 (x15_2 + 1440)) t214 (t214.length : Int) x28_1 ((rd_T148 t214 x28_1).f0) ((rd_T148 t214 x28_1).f1) ((rd_T148 t214 x28_1).f2)) else (if (wrap64 ((x9_2.length : Int) - 1)) ≥ 0 then (if 0 ≤ (wrap64 ((x9_2.length : Int) - 1)) then (if (wrap64 ((x9_2.length : Int) - 1)) < (x9_2.length : Int) then (if ((rd_T114 x9_2 (wrap64 ((x9_2.length : Int) - 1))).f1) = (ji26) then (zone_bands.l1 k2 a2 (x9_2.set ((wrap64 ((x9_2.length : Int) - 1)) : Int).toNat (⟨(rd_T114 x9_2 (wrap64 ((x9_2.length : Int) - 1))).f0, ji27⟩ : S114)) t213 (wrap64 (x15_2 + 1440)) t214 (t214.length : Int) x28_1 ((rd_T148 t214 x28_1).f0) ((rd_T148 t214 x28_1).f1) ((rd_T148 t214 x28_1).f2)) else (if x9_2.length < 8796093022208 then (zone_bands.l1 k2 a2 (x9_2 ++ [(⟨ji26, ji27⟩ : S114)]) t213 (wrap64 (x15_2 + 1440)) t214 (t214.length : Int) x28_1 ((rd_T148 t214 x28_1).f0) ((rd_T148 t214 x28_1).f1) ((rd_T148 t214 x28_1).f2)) else (none))) else (none)) else (none)) else (if x9_2.length < 8796093022208 then (zone_bands.l1 k2 a2 (x9_2 ++ [(⟨ji26, ji27⟩ : S114)]) t213 (wrap64 (x15_2 + 1440)) t214 (t214.length : Int) x28_1 ((rd_T148 t214 x28_1).f0) ((rd_T148 t214 x28_1).f1) ((rd_T148 t214 x28_1).f2)) else (none)))) = some r := by first | (rw [hji27] at H; exact H) | (simp only [hji27] at H ⊢; exact H)
          have hji27_ : (if ((rd_T148 t214 x28_1).f1) < (wrap64 (x15_2 + t213)) then ((rd_T148 t214 x28_1).f1) else (wrap64 (x15_2 + t213))) = ji27 := hji27
          by_cases c28 : (ji26) ≥ (ji27)
          ·rw [if_pos c28] at H
           have c28b0 : decide ((ji27) ≤ (ji26)) = true := decide_eq_true c28
           clear c28
           have H' := Aside0.mk H
           clear H
           have hnb29 := NB218_211.out
           have hnc29 := NB211_218.out
           have hnb30 := NB218_212.out
           have hnc30 := NB212_218.out
           obtain ⟨hcz31_0, hcz31_1, hcz31_2⟩ := blk_cs3 BK218.out
           obtain ⟨hfz31_0, hfz31_1, hfz31_2⟩ := blk_fs3 BK218.out
           go_wp2
           repeat (go_quiet (fail); try go_wp2)
           go_roundg k2
           case measure => have := HK1.out; have := HK2.out; omega
           case rel => exact ⟨(x9_2), (wrap64 (x15_2 + 1440)), (x213001_2), (by first | rfl | (simp; done) | (simp [*]; done)), H', ⟨by have := HK1.out; have := HK2.out; omega⟩, ⟨by (with_reducible repeat (first | apply Kd.R_alloc | apply Kd.R_drewN | apply Kd.R_drew)); exact HO_9.out⟩, ⟨by (with_reducible repeat (first | apply Kd.R_alloc | apply Kd.R_drewN | apply Kd.R_drew)); exact HO_26.out⟩, ⟨by (with_reducible repeat (first | refine blk_drewN ?_ _ | refine blk_drew ?_ | refine blk_alloc ?_ _)); exact BK211.out⟩, ⟨by (with_reducible repeat (first | refine blk_drewN ?_ _ | refine blk_drew ?_ | refine blk_alloc ?_ _)); exact BK212.out⟩, ⟨by (with_reducible repeat (first | refine blk_drewN ?_ _ | refine blk_drew ?_ | refine blk_alloc ?_ _)); exact BK218.out⟩, ⟨hbk⟩⟩
          ·rw [if_neg c28] at H
           have c28b0 : decide ((ji27) ≤ (ji26)) = false := decide_eq_false c28
           clear c28
           by_cases c32 : (wrap64 ((x9_2.length : Int) - 1)) ≥ 0
           ·rw [if_pos c32] at H
            have c32b0 : decide (0 ≤ (wrap64 ((x9_2.length : Int) - 1))) = true := decide_eq_true c32
            clear c32
            obtain ⟨ji33, hji33⟩ : ∃ j_ : Int, (wrap64 ((x9_2.length : Int) - 1)) = j_ := ⟨_, rfl⟩
            replace H : (if 0 ≤ (ji33) then (if (ji33) < (x9_2.length : Int) then (if ((rd_T114 x9_2 (ji33)).f1) = (ji26) then (zone_bands.l1 k2 a2 (x9_2.set ((ji33) : Int).toNat (⟨(rd_T114 x9_2 (ji33)).f0, ji27⟩ : S114)) t213 (wrap64 (x15_2 + 1440)) t214 (t214.length : Int) x28_1 ((rd_T148 t214 x28_1).f0) ((rd_T148 t214 x28_1).f1) ((rd_T148 t214 x28_1).f2)) else (if x9_2.length < 8796093022208 then (zone_bands.l1 k2 a2 (x9_2 ++ [(⟨ji26, ji27⟩ : S114)]) t213 (wrap64 (x15_2 + 1440)) t214 (t214.length : Int) x28_1 ((rd_T148 t214 x28_1).f0) ((rd_T148 t214 x28_1).f1) ((rd_T148 t214 x28_1).f2)) else (none))) else (none)) else (none)) = some r := by first | (rw [hji33] at H; exact H) | (simp only [hji33] at H ⊢; exact H)
            (try rw [hji33] at c32b0)
            have hji33w : (IntKind.i64.wrap ((x9_2.length : Int) - 1)) = ji33 := (i64_w _).trans hji33
            by_cases c34 : 0 ≤ (ji33)
            ·rw [if_pos c34] at H
             have c34b0 : decide (0 ≤ (ji33)) = true := decide_eq_true c34
             clear c34
             by_cases c35 : (ji33) < (x9_2.length : Int)
             ·rw [if_pos c35] at H
              have c35b0 : decide ((ji33) < (x9_2.length : Int)) = true := decide_eq_true c35
              clear c35
              by_cases c36 : ((rd_T114 x9_2 (ji33)).f1) = (ji26)
              ·rw [if_pos c36] at H
               have c36b0 : (((rd_T114 x9_2 (ji33)).f1) == (ji26)) = true := beq_iff_eq.mpr c36
               have c36b1 : (((rd_T114 x9_2 (ji33)).f1) != (ji26)) = false := bne_eq_false_iff_eq.mpr c36
               clear c36
               obtain ⟨y222, hy222⟩ : ∃ y_ : List (S114), y_ = (x9_2.set ((ji33) : Int).toNat (⟨(rd_T114 x9_2 (ji33)).f0, ji27⟩ : S114)) := ⟨_, rfl⟩
               replace H : (zone_bands.l1 k2 a2 y222 t213 (wrap64 (x15_2 + 1440)) t214 (t214.length : Int) x28_1 ((rd_T148 t214 x28_1).f0) ((rd_T148 t214 x28_1).f1) ((rd_T148 t214 x28_1).f2)) = some r := by first | (rw [hy222]; with_reducible exact H) | (have H2_ := (Option.bind_some _ _).symm.trans H; rw [hy222]; with_reducible exact H2_) | (have H2_ := (Option.bind_some _ _).symm.trans H; with_reducible exact H2_) | with_reducible exact H | (rw [hy222]; exact H) | exact H
               have Ny222 := Aside0.mk hy222
               clear hy222
               have H' := Aside0.mk H
               clear H
               have hnb38 := NB218_211.out
               have hnc38 := NB211_218.out
               have hnb39 := NB218_212.out
               have hnc39 := NB212_218.out
               obtain ⟨hcz40_0, hcz40_1, hcz40_2⟩ := blk_cs3 BK218.out
               obtain ⟨hfz40_0, hfz40_1, hfz40_2⟩ := blk_fs3 BK218.out
               obtain ⟨Ao41, co41, eo41⟩ := Kd.R_slice HO_9.out
               subst eo41
               have p221 : 0 ≤ ((ji33) : Int) := of_decide_eq_true (by first | (with_reducible assumption) | assumption)
               have q221 : (ji33) < (x9_2.length : Int) := of_decide_eq_true (by first | (with_reducible assumption) | assumption)
               obtain ⟨ad221, e221, hx221_0, hx221_1⟩ := at_T114 (Kd.R_reads' HO_9.out).2.2 (ji33) p221 q221
               cases e221
               replace p221 := eq_true p221
               replace q221 := eq_true q221
               have p37 : 0 ≤ ((ji33) : Int) := of_decide_eq_true (by first | (with_reducible assumption) | assumption)
               have q37 : ((ji33) : Int) < ((x9_2.length : Int) : Int) := of_decide_eq_true (by first | (with_reducible assumption) | assumption)
               obtain ⟨go37, co37, eo37, gb37, gl37, cl37, HG37⟩ := Kd.R_form HO_9.out (by omega)
               (first | cases eo37 | (injection eo37 with ea_ en_ ec_; (first | subst ea_ | (injection ea_ with ea_; subst ea_)); subst ec_; clear en_))
               have GB37 := Aside0.mk gb37
               have GG37 := Aside0.mk HG37
               clear gb37 gl37 HG37
               (first | simp only [add_plain] at hx221_0 | skip)
               (first | simp only [add_plain] at hx221_1 | skip)
               obtain ⟨ce37, hcl37, hM37, hcc37, hfr37⟩ := Kd.R_elem HO_9.out z114 ((ji33) : Int) p37 q37
               obtain rfl := k114_openM hM37
               have hx37_0 : wr.cell? ⟨go37, ((ji33) : Int).toNat * 2, none⟩ = some (.int .i64 ((rd_T114 x9_2 (ji33)).f0)) := hcc37 0 _ rfl
               have hx37_1 : wr.cell? ⟨go37, ((ji33) : Int).toNat * 2 + 1, none⟩ = some (.int .i64 ((rd_T114 x9_2 (ji33)).f1)) := hcc37 1 _ rfl
               have hf37_0 : wr.frozen? ⟨go37, ((ji33) : Int).toNat * 2, none⟩ = false := hfr37 0
               have hf37_1 : wr.frozen? ⟨go37, ((ji33) : Int).toNat * 2 + 1, none⟩ = false := hfr37 1
               clear hcl37 hcc37 hfr37 hM37
               replace p37 := eq_true p37
               replace q37 := eq_true q37
               have HX42 := Aside0.mk (show Kd.R k114 114 wr w.heap.size (fun k_ => k_ ≠ gb212) (.slice (some ⟨go37, 0, none⟩) x9_2.length co41) x9_2 from (by (with_reducible repeat (first | apply Kd.R_alloc | apply Kd.R_drewN | apply Kd.R_drew)); exact HO_9.out))
               obtain ⟨ce42, hcl42, hM42, hcc42, hfr42⟩ := Kd.R_elem HX42.out z114 ((ji33) : Int) (of_decide_eq_true (by first | (with_reducible assumption) | assumption)) (by have h_ : ((ji33) : Int) < ((x9_2.length : Int) : Int) := of_decide_eq_true (by first | (with_reducible assumption) | assumption); first | exact h_ | (have e_ := (Kd.R_reads' HO_9.out).1; omega) | simpa using h_)
               obtain rfl := k114_openM hM42
               have HP42 := Kd.R_seg HX42.out ((ji33) : Int) (of_decide_eq_true (by first | (with_reducible assumption) | assumption)) (by have h_ : ((ji33) : Int) < ((x9_2.length : Int) : Int) := of_decide_eq_true (by first | (with_reducible assumption) | assumption); first | exact h_ | (have e_ := (Kd.R_reads' HO_9.out).1; omega) | simpa using h_) (seg := [.int .i64 ji27]) (j := 1) hcl42 hcc42 (show 2 ≤ 2 from by decide) (x' := (⟨(rd_T114 x9_2 (ji33)).f0, ji27⟩ : S114)) (k114_mkM _ _ _ (⟨(rd_T114 x9_2 (ji33)).f0, ji27⟩ : S114) ) (fun _ hk => hk)
               have hx42_1 := hcc42 1 _ rfl
               (try simp only [show (k114).sz = 2 from rfl, Nat.mul_one, Nat.add_zero] at hx42_1)
               have hf42_1 := hfr42 1
               (try simp only [show (k114).sz = 2 from rfl, Nat.mul_one, Nat.add_zero] at hf42_1)
               clear hcl42 hcc42 hfr42 hM42
               go_wp2_with (first | ((with_reducible refine gate_store (t := 3) (p := 84) rfl ?_); (try (rw [drewN_self wr]; generalize hq_ : World.drewN wr _ = wr; have n0_ := Aside0.mk (Kd.R_at hq_ HO_9.out); have n1_ := Aside0.mk (Kd.R_at hq_ HO_26.out); have n2_ := Aside0.mk (blk_at hq_ BK211.out); have n3_ := Aside0.mk (blk_at hq_ BK212.out); have n4_ := Aside0.mk (blk_at hq_ BK218.out); have n5_ := Aside0.mk (below_at hq_ HB.out); clear hq_ HO_9 HO_26 BK211 BK212 BK218 HB; have HO_9 := n0_; have HO_26 := n1_; have BK211 := n2_; have BK212 := n3_; have BK218 := n4_; have HB := n5_; clear n0_ n1_ n2_ n3_ n4_ n5_; (try (have HX42 := Aside0.mk (show Kd.R k114 114 wr w.heap.size (fun k_ => k_ ≠ gb212) (.slice (some ⟨go37, 0, none⟩) x9_2.length co41) x9_2 from (by (with_reducible repeat (first | apply Kd.R_alloc | apply Kd.R_drewN | apply Kd.R_drew)); exact HO_9.out)))); (try (obtain ⟨ce42, hcl42, hM42, hcc42, hfr42⟩ := Kd.R_elem HX42.out z114 ((ji33) : Int) (of_decide_eq_true (by first | (with_reducible assumption) | assumption)) (by have h_ : ((ji33) : Int) < ((x9_2.length : Int) : Int) := of_decide_eq_true (by first | (with_reducible assumption) | assumption); first | exact h_ | (have e_ := (Kd.R_reads' HO_9.out).1; omega) | simpa using h_))); (try (obtain rfl := k114_openM hM42)); (try (have HP42 := Kd.R_seg HX42.out ((ji33) : Int) (of_decide_eq_true (by first | (with_reducible assumption) | assumption)) (by have h_ : ((ji33) : Int) < ((x9_2.length : Int) : Int) := of_decide_eq_true (by first | (with_reducible assumption) | assumption); first | exact h_ | (have e_ := (Kd.R_reads' HO_9.out).1; omega) | simpa using h_) (seg := [.int .i64 ji27]) (j := 1) hcl42 hcc42 (show 2 ≤ 2 from by decide) (x' := (⟨(rd_T114 x9_2 (ji33)).f0, ji27⟩ : S114)) (k114_mkM _ _ _ (⟨(rd_T114 x9_2 (ji33)).f0, ji27⟩ : S114) ) (fun _ hk => hk))); (try (have hx42_1 := hcc42 1 _ rfl)); (try (try simp only [show (k114).sz = 2 from rfl, Nat.mul_one, Nat.add_zero] at hx42_1)); (try (have hf42_1 := hfr42 1)); (try (try simp only [show (k114).sz = 2 from rfl, Nat.mul_one, Nat.add_zero] at hf42_1)); (try (clear hcl42 hcc42 hfr42 hM42)))); refine store_event (t := 3) (p := 84) (v := ?vo_w43) (w1 := (wr.setCell ⟨go37, ((ji33) : Int).toNat * 2 + 1, none⟩ (.int .i64 ji27))) ?hg ?ho ?hn ?hr ?_; (case ho => rfl); (case hg => rfl); (case hn => rfl); (case hr => first | (go_simp; done) | (go_simp; rfl)); intro w43 hw; have hg : wr.grownBy w43 (some go37) := (by rw [hw]; exact HP42.2); have hp_ : Kd.R k114 114 w43 w.heap.size (fun k_ => k_ ≠ gb212) (.slice (some ⟨go37, 0, none⟩) x9_2.length co41) y222 := (by rw [hw, Ny222.out]; exact HP42.1); clear HP42; replace HO_26 := Aside0.mk (Kd.R_over' (v := (.slice (some ⟨go37, 0, none⟩) x9_2.length co41)) (by (with_reducible repeat (first | apply Kd.R_alloc | apply Kd.R_drewN | apply Kd.R_drew)); exact HO_26.out) (Kd.R_typed HO_9.out) (by decide) hg); replace BK211 := Aside0.mk (blk_grown (bk BK211.out) hg (Kd.R_ne HO_9.out BK211.out (by decide))); replace BK212 := Aside0.mk (blk_grown (bk BK212.out) hg (Kd.R_away HO_9.out (fun _ hk => hk))); replace BK218 := Aside0.mk (blk_grown (bk BK218.out) hg (Kd.R_ne HO_9.out BK218.out (by decide))); replace HO_9 := Aside0.mk (hp_); replace HB := Aside0.mk ((by rw [hw]; exact below_set (HB.out) GB37.out : Below w.heap.size w w43)); clear hg hw hp_))
               repeat (go_quiet (first | ((with_reducible refine gate_store (t := 3) (p := 84) rfl ?_); (try (rw [drewN_self wr]; generalize hq_ : World.drewN wr _ = wr; have n0_ := Aside0.mk (Kd.R_at hq_ HO_9.out); have n1_ := Aside0.mk (Kd.R_at hq_ HO_26.out); have n2_ := Aside0.mk (blk_at hq_ BK211.out); have n3_ := Aside0.mk (blk_at hq_ BK212.out); have n4_ := Aside0.mk (blk_at hq_ BK218.out); have n5_ := Aside0.mk (below_at hq_ HB.out); clear hq_ HO_9 HO_26 BK211 BK212 BK218 HB; have HO_9 := n0_; have HO_26 := n1_; have BK211 := n2_; have BK212 := n3_; have BK218 := n4_; have HB := n5_; clear n0_ n1_ n2_ n3_ n4_ n5_; (try (have HX42 := Aside0.mk (show Kd.R k114 114 wr w.heap.size (fun k_ => k_ ≠ gb212) (.slice (some ⟨go37, 0, none⟩) x9_2.length co41) x9_2 from (by (with_reducible repeat (first | apply Kd.R_alloc | apply Kd.R_drewN | apply Kd.R_drew)); exact HO_9.out)))); (try (obtain ⟨ce42, hcl42, hM42, hcc42, hfr42⟩ := Kd.R_elem HX42.out z114 ((ji33) : Int) (of_decide_eq_true (by first | (with_reducible assumption) | assumption)) (by have h_ : ((ji33) : Int) < ((x9_2.length : Int) : Int) := of_decide_eq_true (by first | (with_reducible assumption) | assumption); first | exact h_ | (have e_ := (Kd.R_reads' HO_9.out).1; omega) | simpa using h_))); (try (obtain rfl := k114_openM hM42)); (try (have HP42 := Kd.R_seg HX42.out ((ji33) : Int) (of_decide_eq_true (by first | (with_reducible assumption) | assumption)) (by have h_ : ((ji33) : Int) < ((x9_2.length : Int) : Int) := of_decide_eq_true (by first | (with_reducible assumption) | assumption); first | exact h_ | (have e_ := (Kd.R_reads' HO_9.out).1; omega) | simpa using h_) (seg := [.int .i64 ji27]) (j := 1) hcl42 hcc42 (show 2 ≤ 2 from by decide) (x' := (⟨(rd_T114 x9_2 (ji33)).f0, ji27⟩ : S114)) (k114_mkM _ _ _ (⟨(rd_T114 x9_2 (ji33)).f0, ji27⟩ : S114) ) (fun _ hk => hk))); (try (have hx42_1 := hcc42 1 _ rfl)); (try (try simp only [show (k114).sz = 2 from rfl, Nat.mul_one, Nat.add_zero] at hx42_1)); (try (have hf42_1 := hfr42 1)); (try (try simp only [show (k114).sz = 2 from rfl, Nat.mul_one, Nat.add_zero] at hf42_1)); (try (clear hcl42 hcc42 hfr42 hM42)))); refine store_event (t := 3) (p := 84) (v := ?vo_w43) (w1 := (wr.setCell ⟨go37, ((ji33) : Int).toNat * 2 + 1, none⟩ (.int .i64 ji27))) ?hg ?ho ?hn ?hr ?_; (case ho => rfl); (case hg => rfl); (case hn => rfl); (case hr => first | (go_simp; done) | (go_simp; rfl)); intro w43 hw; have hg : wr.grownBy w43 (some go37) := (by rw [hw]; exact HP42.2); have hp_ : Kd.R k114 114 w43 w.heap.size (fun k_ => k_ ≠ gb212) (.slice (some ⟨go37, 0, none⟩) x9_2.length co41) y222 := (by rw [hw, Ny222.out]; exact HP42.1); clear HP42; replace HO_26 := Aside0.mk (Kd.R_over' (v := (.slice (some ⟨go37, 0, none⟩) x9_2.length co41)) (by (with_reducible repeat (first | apply Kd.R_alloc | apply Kd.R_drewN | apply Kd.R_drew)); exact HO_26.out) (Kd.R_typed HO_9.out) (by decide) hg); replace BK211 := Aside0.mk (blk_grown (bk BK211.out) hg (Kd.R_ne HO_9.out BK211.out (by decide))); replace BK212 := Aside0.mk (blk_grown (bk BK212.out) hg (Kd.R_away HO_9.out (fun _ hk => hk))); replace BK218 := Aside0.mk (blk_grown (bk BK218.out) hg (Kd.R_ne HO_9.out BK218.out (by decide))); replace HO_9 := Aside0.mk (hp_); replace HB := Aside0.mk ((by rw [hw]; exact below_set (HB.out) GB37.out : Below w.heap.size w w43)); clear hg hw hp_)); try go_wp2_with (first | ((with_reducible refine gate_store (t := 3) (p := 84) rfl ?_); (try (rw [drewN_self wr]; generalize hq_ : World.drewN wr _ = wr; have n0_ := Aside0.mk (Kd.R_at hq_ HO_9.out); have n1_ := Aside0.mk (Kd.R_at hq_ HO_26.out); have n2_ := Aside0.mk (blk_at hq_ BK211.out); have n3_ := Aside0.mk (blk_at hq_ BK212.out); have n4_ := Aside0.mk (blk_at hq_ BK218.out); have n5_ := Aside0.mk (below_at hq_ HB.out); clear hq_ HO_9 HO_26 BK211 BK212 BK218 HB; have HO_9 := n0_; have HO_26 := n1_; have BK211 := n2_; have BK212 := n3_; have BK218 := n4_; have HB := n5_; clear n0_ n1_ n2_ n3_ n4_ n5_; (try (have HX42 := Aside0.mk (show Kd.R k114 114 wr w.heap.size (fun k_ => k_ ≠ gb212) (.slice (some ⟨go37, 0, none⟩) x9_2.length co41) x9_2 from (by (with_reducible repeat (first | apply Kd.R_alloc | apply Kd.R_drewN | apply Kd.R_drew)); exact HO_9.out)))); (try (obtain ⟨ce42, hcl42, hM42, hcc42, hfr42⟩ := Kd.R_elem HX42.out z114 ((ji33) : Int) (of_decide_eq_true (by first | (with_reducible assumption) | assumption)) (by have h_ : ((ji33) : Int) < ((x9_2.length : Int) : Int) := of_decide_eq_true (by first | (with_reducible assumption) | assumption); first | exact h_ | (have e_ := (Kd.R_reads' HO_9.out).1; omega) | simpa using h_))); (try (obtain rfl := k114_openM hM42)); (try (have HP42 := Kd.R_seg HX42.out ((ji33) : Int) (of_decide_eq_true (by first | (with_reducible assumption) | assumption)) (by have h_ : ((ji33) : Int) < ((x9_2.length : Int) : Int) := of_decide_eq_true (by first | (with_reducible assumption) | assumption); first | exact h_ | (have e_ := (Kd.R_reads' HO_9.out).1; omega) | simpa using h_) (seg := [.int .i64 ji27]) (j := 1) hcl42 hcc42 (show 2 ≤ 2 from by decide) (x' := (⟨(rd_T114 x9_2 (ji33)).f0, ji27⟩ : S114)) (k114_mkM _ _ _ (⟨(rd_T114 x9_2 (ji33)).f0, ji27⟩ : S114) ) (fun _ hk => hk))); (try (have hx42_1 := hcc42 1 _ rfl)); (try (try simp only [show (k114).sz = 2 from rfl, Nat.mul_one, Nat.add_zero] at hx42_1)); (try (have hf42_1 := hfr42 1)); (try (try simp only [show (k114).sz = 2 from rfl, Nat.mul_one, Nat.add_zero] at hf42_1)); (try (clear hcl42 hcc42 hfr42 hM42)))); refine store_event (t := 3) (p := 84) (v := ?vo_w43) (w1 := (wr.setCell ⟨go37, ((ji33) : Int).toNat * 2 + 1, none⟩ (.int .i64 ji27))) ?hg ?ho ?hn ?hr ?_; (case ho => rfl); (case hg => rfl); (case hn => rfl); (case hr => first | (go_simp; done) | (go_simp; rfl)); intro w43 hw; have hg : wr.grownBy w43 (some go37) := (by rw [hw]; exact HP42.2); have hp_ : Kd.R k114 114 w43 w.heap.size (fun k_ => k_ ≠ gb212) (.slice (some ⟨go37, 0, none⟩) x9_2.length co41) y222 := (by rw [hw, Ny222.out]; exact HP42.1); clear HP42; have n0_ := Aside0.mk (hp_); have n1_ := Aside0.mk (Kd.R_over' (v := (.slice (some ⟨go37, 0, none⟩) x9_2.length co41)) (by (with_reducible repeat (first | apply Kd.R_alloc | apply Kd.R_drewN | apply Kd.R_drew)); exact HO_26.out) (Kd.R_typed HO_9.out) (by decide) hg); have n2_ := Aside0.mk (blk_grown (bk BK211.out) hg (Kd.R_ne HO_9.out BK211.out (by decide))); have n3_ := Aside0.mk (blk_grown (bk BK212.out) hg (Kd.R_away HO_9.out (fun _ hk => hk))); have n4_ := Aside0.mk (blk_grown (bk BK218.out) hg (Kd.R_ne HO_9.out BK218.out (by decide))); have n5_ := Aside0.mk ((by rw [hw]; exact below_set (HB.out) GB37.out : Below w.heap.size w w43)); clear HO_9; clear HO_26; clear BK211; clear BK212; clear BK218; clear HB; have HO_9 := n0_; have HO_26 := n1_; have BK211 := n2_; have BK212 := n3_; have BK218 := n4_; have HB := n5_; clear n0_ n1_ n2_ n3_ n4_ n5_; clear hg hw hp_)))
               go_roundg k2
               case measure => have := HK1.out; have := HK2.out; omega
               case rel => exact ⟨(y222), (wrap64 (x15_2 + 1440)), (x213001_2), (by first | rfl | (simp; done) | (simp [*]; done)), H', ⟨by have := HK1.out; have := HK2.out; omega⟩, ⟨by (with_reducible repeat (first | apply Kd.R_alloc | apply Kd.R_drewN | apply Kd.R_drew)); exact HO_9.out⟩, ⟨by (with_reducible repeat (first | apply Kd.R_alloc | apply Kd.R_drewN | apply Kd.R_drew)); exact HO_26.out⟩, ⟨by (with_reducible repeat (first | refine blk_drewN ?_ _ | refine blk_drew ?_ | refine blk_alloc ?_ _)); exact BK211.out⟩, ⟨by (with_reducible repeat (first | refine blk_drewN ?_ _ | refine blk_drew ?_ | refine blk_alloc ?_ _)); exact BK212.out⟩, ⟨by (with_reducible repeat (first | refine blk_drewN ?_ _ | refine blk_drew ?_ | refine blk_alloc ?_ _)); exact BK218.out⟩, ⟨hbk⟩⟩
              ·rw [if_neg c36] at H
               have c36b0 : (((rd_T114 x9_2 (ji33)).f1) == (ji26)) = false := beq_eq_false_iff_ne.mpr c36
               have c36b1 : (((rd_T114 x9_2 (ji33)).f1) != (ji26)) = true := bne_iff_ne.mpr c36
               by_cases c44 : x9_2.length < 8796093022208
               ·rw [if_pos c44] at H
                have LMc44 := Aside0.mk c44
                clear c44
                obtain ⟨y223, hy223⟩ : ∃ y_ : List (S114), y_ = (x9_2 ++ [(⟨ji26, ji27⟩ : S114)]) := ⟨_, rfl⟩
                replace H : (zone_bands.l1 k2 a2 y223 t213 (wrap64 (x15_2 + 1440)) t214 (t214.length : Int) x28_1 ((rd_T148 t214 x28_1).f0) ((rd_T148 t214 x28_1).f1) ((rd_T148 t214 x28_1).f2)) = some r := by first | (rw [hy223]; with_reducible exact H) | (have H2_ := (Option.bind_some _ _).symm.trans H; rw [hy223]; with_reducible exact H2_) | (have H2_ := (Option.bind_some _ _).symm.trans H; with_reducible exact H2_) | with_reducible exact H | (rw [hy223]; exact H) | exact H
                have Ny223 := Aside0.mk hy223
                clear hy223
                have H' := Aside0.mk H
                clear H
                have hnb45 := NB218_211.out
                have hnc45 := NB211_218.out
                have hnb46 := NB218_212.out
                have hnc46 := NB212_218.out
                obtain ⟨hcz47_0, hcz47_1, hcz47_2⟩ := blk_cs3 BK218.out
                obtain ⟨hfz47_0, hfz47_1, hfz47_2⟩ := blk_fs3 BK218.out
                obtain ⟨Ao48, co48, eo48⟩ := Kd.R_slice HO_9.out
                subst eo48
                have p221 : 0 ≤ ((ji33) : Int) := of_decide_eq_true (by first | (with_reducible assumption) | assumption)
                have q221 : (ji33) < (x9_2.length : Int) := of_decide_eq_true (by first | (with_reducible assumption) | assumption)
                obtain ⟨ad221, e221, hx221_0, hx221_1⟩ := at_T114 (Kd.R_reads' HO_9.out).2.2 (ji33) p221 q221
                cases e221
                replace p221 := eq_true p221
                replace q221 := eq_true q221
                go_wp2_with (first | ((with_reducible refine gate_builtin (b := .append) (xs := #[.tmp 85, .tmp 89]) rfl ?_); at_builtin; refine Kd.R_append k114 (w0 := w) w.heap.size rfl (.tmp 85) (.tmp 89) 145 114 (.agg #[(.int .i64 0), (.int .i64 0)]) 16 rfl Tryz.underlying145 info114 rfl (by decide) (by omega) (.slice (some ad221) x9_2.length co48) x9_2 (⟨ji26, ji27⟩ : S114) [.int .i64 ji26, .int .i64 ji27] (fun k_ => k_ ≠ gb212) (fun _ => False) rfl rfl ?aP (fun _ hk => hk.elim) ?aF ?aO ?aB ?aS ?aL ?_; (case aP => exact k114_mkM _ _ _ (⟨ji26, ji27⟩ : S114)); (case aB => exact hbk); (case aF => exact (fun k_ hk => Kd.freshB (bk BK212.out) k_ hk)); (case aO => exact (by (with_reducible repeat (first | apply Kd.R_alloc | apply Kd.R_drewN | apply Kd.R_drew)); exact HO_9.out)); (case aS => exact (below_size hbk)); (case aL => have := LMc44.out; omega); intro v224 w49 ho hb hg hat; rw [← Ny223.out] at ho; have HO225 := Aside0.mk (ho); replace HO_26 := Aside0.mk (Kd.R_over' (by (with_reducible repeat (first | apply Kd.R_alloc | apply Kd.R_drewN | apply Kd.R_drew)); exact HO_26.out) (Kd.R_typed (by (with_reducible repeat (first | apply Kd.R_alloc | apply Kd.R_drewN | apply Kd.R_drew)); exact HO_9.out)) (by decide) hg); replace BK211 := Aside0.mk (blk_grown (bk BK211.out) hg (Kd.R_ne HO_9.out BK211.out (by decide))); replace BK212 := Aside0.mk (blk_grown (bk BK212.out) hg (Kd.R_away HO_9.out (fun _ hk => hk))); replace BK218 := Aside0.mk (blk_grown (bk BK218.out) hg (Kd.R_ne HO_9.out BK218.out (by decide))); replace HB := Aside0.mk (hb); clear HO_9; clear ho hb hg hat))
                repeat (go_quiet (first | ((with_reducible refine gate_builtin (b := .append) (xs := #[.tmp 85, .tmp 89]) rfl ?_); at_builtin; refine Kd.R_append k114 (w0 := w) w.heap.size rfl (.tmp 85) (.tmp 89) 145 114 (.agg #[(.int .i64 0), (.int .i64 0)]) 16 rfl Tryz.underlying145 info114 rfl (by decide) (by omega) (.slice (some ad221) x9_2.length co48) x9_2 (⟨ji26, ji27⟩ : S114) [.int .i64 ji26, .int .i64 ji27] (fun k_ => k_ ≠ gb212) (fun _ => False) rfl rfl ?aP (fun _ hk => hk.elim) ?aF ?aO ?aB ?aS ?aL ?_; (case aP => exact k114_mkM _ _ _ (⟨ji26, ji27⟩ : S114)); (case aB => exact hbk); (case aF => exact (fun k_ hk => Kd.freshB (bk BK212.out) k_ hk)); (case aO => exact (by (with_reducible repeat (first | apply Kd.R_alloc | apply Kd.R_drewN | apply Kd.R_drew)); exact HO_9.out)); (case aS => exact (below_size hbk)); (case aL => have := LMc44.out; omega); intro v224 w49 ho hb hg hat; rw [← Ny223.out] at ho; have HO225 := Aside0.mk (ho); replace HO_26 := Aside0.mk (Kd.R_over' (by (with_reducible repeat (first | apply Kd.R_alloc | apply Kd.R_drewN | apply Kd.R_drew)); exact HO_26.out) (Kd.R_typed (by (with_reducible repeat (first | apply Kd.R_alloc | apply Kd.R_drewN | apply Kd.R_drew)); exact HO_9.out)) (by decide) hg); replace BK211 := Aside0.mk (blk_grown (bk BK211.out) hg (Kd.R_ne HO_9.out BK211.out (by decide))); replace BK212 := Aside0.mk (blk_grown (bk BK212.out) hg (Kd.R_away HO_9.out (fun _ hk => hk))); replace BK218 := Aside0.mk (blk_grown (bk BK218.out) hg (Kd.R_ne HO_9.out BK218.out (by decide))); replace HB := Aside0.mk (hb); clear HO_9; clear ho hb hg hat)); try go_wp2_with (first | ((with_reducible refine gate_builtin (b := .append) (xs := #[.tmp 85, .tmp 89]) rfl ?_); at_builtin; refine Kd.R_append k114 (w0 := w) w.heap.size rfl (.tmp 85) (.tmp 89) 145 114 (.agg #[(.int .i64 0), (.int .i64 0)]) 16 rfl Tryz.underlying145 info114 rfl (by decide) (by omega) (.slice (some ad221) x9_2.length co48) x9_2 (⟨ji26, ji27⟩ : S114) [.int .i64 ji26, .int .i64 ji27] (fun k_ => k_ ≠ gb212) (fun _ => False) rfl rfl ?aP (fun _ hk => hk.elim) ?aF ?aO ?aB ?aS ?aL ?_; (case aP => exact k114_mkM _ _ _ (⟨ji26, ji27⟩ : S114)); (case aB => exact hbk); (case aF => exact (fun k_ hk => Kd.freshB (bk BK212.out) k_ hk)); (case aO => exact (by (with_reducible repeat (first | apply Kd.R_alloc | apply Kd.R_drewN | apply Kd.R_drew)); exact HO_9.out)); (case aS => exact (below_size hbk)); (case aL => have := LMc44.out; omega); intro v224 w49 ho hb hg hat; rw [← Ny223.out] at ho; have n0_ := Aside0.mk (Kd.R_over' (by (with_reducible repeat (first | apply Kd.R_alloc | apply Kd.R_drewN | apply Kd.R_drew)); exact HO_26.out) (Kd.R_typed (by (with_reducible repeat (first | apply Kd.R_alloc | apply Kd.R_drewN | apply Kd.R_drew)); exact HO_9.out)) (by decide) hg); have n1_ := Aside0.mk (blk_grown (bk BK211.out) hg (Kd.R_ne HO_9.out BK211.out (by decide))); have n2_ := Aside0.mk (blk_grown (bk BK212.out) hg (Kd.R_away HO_9.out (fun _ hk => hk))); have n3_ := Aside0.mk (blk_grown (bk BK218.out) hg (Kd.R_ne HO_9.out BK218.out (by decide))); have n4_ := Aside0.mk (hb); have n5_ := Aside0.mk (ho); clear HO_26; clear BK211; clear BK212; clear BK218; clear HB; clear HO_9; have HO_26 := n0_; have BK211 := n1_; have BK212 := n2_; have BK218 := n3_; have HB := n4_; have HO225 := n5_; clear n0_ n1_ n2_ n3_ n4_ n5_; clear ho hb hg hat)))
                go_roundg k2
                case measure => have := HK1.out; have := HK2.out; omega
                case rel => exact ⟨(y223), (wrap64 (x15_2 + 1440)), (x213001_2), (by first | rfl | (simp; done) | (simp [*]; done)), H', ⟨by have := HK1.out; have := HK2.out; omega⟩, ⟨by (with_reducible repeat (first | apply Kd.R_alloc | apply Kd.R_drewN | apply Kd.R_drew)); exact HO225.out⟩, ⟨by (with_reducible repeat (first | apply Kd.R_alloc | apply Kd.R_drewN | apply Kd.R_drew)); exact HO_26.out⟩, ⟨by (with_reducible repeat (first | refine blk_drewN ?_ _ | refine blk_drew ?_ | refine blk_alloc ?_ _)); exact BK211.out⟩, ⟨by (with_reducible repeat (first | refine blk_drewN ?_ _ | refine blk_drew ?_ | refine blk_alloc ?_ _)); exact BK212.out⟩, ⟨by (with_reducible repeat (first | refine blk_drewN ?_ _ | refine blk_drew ?_ | refine blk_alloc ?_ _)); exact BK218.out⟩, ⟨hbk⟩⟩
               ·rw [if_neg c44] at H
                exact absurd H (by simp)
             ·rw [if_neg c35] at H
              exact absurd H (by simp)
            ·rw [if_neg c34] at H
             exact absurd H (by simp)
           ·rw [if_neg c32] at H
            have c32b0 : decide (0 ≤ (wrap64 ((x9_2.length : Int) - 1))) = false := decide_eq_false c32
            clear c32
            by_cases c50 : x9_2.length < 8796093022208
            ·rw [if_pos c50] at H
             have LMc50 := Aside0.mk c50
             clear c50
             obtain ⟨y226, hy226⟩ : ∃ y_ : List (S114), y_ = (x9_2 ++ [(⟨ji26, ji27⟩ : S114)]) := ⟨_, rfl⟩
             replace H : (zone_bands.l1 k2 a2 y226 t213 (wrap64 (x15_2 + 1440)) t214 (t214.length : Int) x28_1 ((rd_T148 t214 x28_1).f0) ((rd_T148 t214 x28_1).f1) ((rd_T148 t214 x28_1).f2)) = some r := by first | (rw [hy226]; with_reducible exact H) | (have H2_ := (Option.bind_some _ _).symm.trans H; rw [hy226]; with_reducible exact H2_) | (have H2_ := (Option.bind_some _ _).symm.trans H; with_reducible exact H2_) | with_reducible exact H | (rw [hy226]; exact H) | exact H
             have Ny226 := Aside0.mk hy226
             clear hy226
             have H' := Aside0.mk H
             clear H
             have hnb51 := NB218_211.out
             have hnc51 := NB211_218.out
             have hnb52 := NB218_212.out
             have hnc52 := NB212_218.out
             obtain ⟨hcz53_0, hcz53_1, hcz53_2⟩ := blk_cs3 BK218.out
             obtain ⟨hfz53_0, hfz53_1, hfz53_2⟩ := blk_fs3 BK218.out
             obtain ⟨Ao54, co54, eo54⟩ := Kd.R_slice HO_9.out
             subst eo54
             go_wp2_with (first | ((with_reducible refine gate_builtin (b := .append) (xs := #[.tmp 85, .tmp 89]) rfl ?_); at_builtin; refine Kd.R_append k114 (w0 := w) w.heap.size rfl (.tmp 85) (.tmp 89) 145 114 (.agg #[(.int .i64 0), (.int .i64 0)]) 16 rfl Tryz.underlying145 info114 rfl (by decide) (by omega) (.slice Ao54 x9_2.length co54) x9_2 (⟨ji26, ji27⟩ : S114) [.int .i64 ji26, .int .i64 ji27] (fun k_ => k_ ≠ gb212) (fun _ => False) rfl rfl ?aP (fun _ hk => hk.elim) ?aF ?aO ?aB ?aS ?aL ?_; (case aP => exact k114_mkM _ _ _ (⟨ji26, ji27⟩ : S114)); (case aB => exact hbk); (case aF => exact (fun k_ hk => Kd.freshB (bk BK212.out) k_ hk)); (case aO => exact (by (with_reducible repeat (first | apply Kd.R_alloc | apply Kd.R_drewN | apply Kd.R_drew)); exact HO_9.out)); (case aS => exact (below_size hbk)); (case aL => have := LMc50.out; omega); intro v227 w55 ho hb hg hat; rw [← Ny226.out] at ho; have HO228 := Aside0.mk (ho); replace HO_26 := Aside0.mk (Kd.R_over' (by (with_reducible repeat (first | apply Kd.R_alloc | apply Kd.R_drewN | apply Kd.R_drew)); exact HO_26.out) (Kd.R_typed (by (with_reducible repeat (first | apply Kd.R_alloc | apply Kd.R_drewN | apply Kd.R_drew)); exact HO_9.out)) (by decide) hg); replace BK211 := Aside0.mk (blk_grown (bk BK211.out) hg (Kd.R_ne HO_9.out BK211.out (by decide))); replace BK212 := Aside0.mk (blk_grown (bk BK212.out) hg (Kd.R_away HO_9.out (fun _ hk => hk))); replace BK218 := Aside0.mk (blk_grown (bk BK218.out) hg (Kd.R_ne HO_9.out BK218.out (by decide))); replace HB := Aside0.mk (hb); clear HO_9; clear ho hb hg hat))
             repeat (go_quiet (first | ((with_reducible refine gate_builtin (b := .append) (xs := #[.tmp 85, .tmp 89]) rfl ?_); at_builtin; refine Kd.R_append k114 (w0 := w) w.heap.size rfl (.tmp 85) (.tmp 89) 145 114 (.agg #[(.int .i64 0), (.int .i64 0)]) 16 rfl Tryz.underlying145 info114 rfl (by decide) (by omega) (.slice Ao54 x9_2.length co54) x9_2 (⟨ji26, ji27⟩ : S114) [.int .i64 ji26, .int .i64 ji27] (fun k_ => k_ ≠ gb212) (fun _ => False) rfl rfl ?aP (fun _ hk => hk.elim) ?aF ?aO ?aB ?aS ?aL ?_; (case aP => exact k114_mkM _ _ _ (⟨ji26, ji27⟩ : S114)); (case aB => exact hbk); (case aF => exact (fun k_ hk => Kd.freshB (bk BK212.out) k_ hk)); (case aO => exact (by (with_reducible repeat (first | apply Kd.R_alloc | apply Kd.R_drewN | apply Kd.R_drew)); exact HO_9.out)); (case aS => exact (below_size hbk)); (case aL => have := LMc50.out; omega); intro v227 w55 ho hb hg hat; rw [← Ny226.out] at ho; have HO228 := Aside0.mk (ho); replace HO_26 := Aside0.mk (Kd.R_over' (by (with_reducible repeat (first | apply Kd.R_alloc | apply Kd.R_drewN | apply Kd.R_drew)); exact HO_26.out) (Kd.R_typed (by (with_reducible repeat (first | apply Kd.R_alloc | apply Kd.R_drewN | apply Kd.R_drew)); exact HO_9.out)) (by decide) hg); replace BK211 := Aside0.mk (blk_grown (bk BK211.out) hg (Kd.R_ne HO_9.out BK211.out (by decide))); replace BK212 := Aside0.mk (blk_grown (bk BK212.out) hg (Kd.R_away HO_9.out (fun _ hk => hk))); replace BK218 := Aside0.mk (blk_grown (bk BK218.out) hg (Kd.R_ne HO_9.out BK218.out (by decide))); replace HB := Aside0.mk (hb); clear HO_9; clear ho hb hg hat)); try go_wp2_with (first | ((with_reducible refine gate_builtin (b := .append) (xs := #[.tmp 85, .tmp 89]) rfl ?_); at_builtin; refine Kd.R_append k114 (w0 := w) w.heap.size rfl (.tmp 85) (.tmp 89) 145 114 (.agg #[(.int .i64 0), (.int .i64 0)]) 16 rfl Tryz.underlying145 info114 rfl (by decide) (by omega) (.slice Ao54 x9_2.length co54) x9_2 (⟨ji26, ji27⟩ : S114) [.int .i64 ji26, .int .i64 ji27] (fun k_ => k_ ≠ gb212) (fun _ => False) rfl rfl ?aP (fun _ hk => hk.elim) ?aF ?aO ?aB ?aS ?aL ?_; (case aP => exact k114_mkM _ _ _ (⟨ji26, ji27⟩ : S114)); (case aB => exact hbk); (case aF => exact (fun k_ hk => Kd.freshB (bk BK212.out) k_ hk)); (case aO => exact (by (with_reducible repeat (first | apply Kd.R_alloc | apply Kd.R_drewN | apply Kd.R_drew)); exact HO_9.out)); (case aS => exact (below_size hbk)); (case aL => have := LMc50.out; omega); intro v227 w55 ho hb hg hat; rw [← Ny226.out] at ho; have n0_ := Aside0.mk (Kd.R_over' (by (with_reducible repeat (first | apply Kd.R_alloc | apply Kd.R_drewN | apply Kd.R_drew)); exact HO_26.out) (Kd.R_typed (by (with_reducible repeat (first | apply Kd.R_alloc | apply Kd.R_drewN | apply Kd.R_drew)); exact HO_9.out)) (by decide) hg); have n1_ := Aside0.mk (blk_grown (bk BK211.out) hg (Kd.R_ne HO_9.out BK211.out (by decide))); have n2_ := Aside0.mk (blk_grown (bk BK212.out) hg (Kd.R_away HO_9.out (fun _ hk => hk))); have n3_ := Aside0.mk (blk_grown (bk BK218.out) hg (Kd.R_ne HO_9.out BK218.out (by decide))); have n4_ := Aside0.mk (hb); have n5_ := Aside0.mk (ho); clear HO_26; clear BK211; clear BK212; clear BK218; clear HB; clear HO_9; have HO_26 := n0_; have BK211 := n1_; have BK212 := n2_; have BK218 := n3_; have HB := n4_; have HO228 := n5_; clear n0_ n1_ n2_ n3_ n4_ n5_; clear ho hb hg hat)))
             go_roundg k2
             case measure => have := HK1.out; have := HK2.out; omega
             case rel => exact ⟨(y226), (wrap64 (x15_2 + 1440)), (x213001_2), (by first | rfl | (simp; done) | (simp [*]; done)), H', ⟨by have := HK1.out; have := HK2.out; omega⟩, ⟨by (with_reducible repeat (first | apply Kd.R_alloc | apply Kd.R_drewN | apply Kd.R_drew)); exact HO228.out⟩, ⟨by (with_reducible repeat (first | apply Kd.R_alloc | apply Kd.R_drewN | apply Kd.R_drew)); exact HO_26.out⟩, ⟨by (with_reducible repeat (first | refine blk_drewN ?_ _ | refine blk_drew ?_ | refine blk_alloc ?_ _)); exact BK211.out⟩, ⟨by (with_reducible repeat (first | refine blk_drewN ?_ _ | refine blk_drew ?_ | refine blk_alloc ?_ _)); exact BK212.out⟩, ⟨by (with_reducible repeat (first | refine blk_drewN ?_ _ | refine blk_drew ?_ | refine blk_alloc ?_ _)); exact BK218.out⟩, ⟨hbk⟩⟩
            ·rw [if_neg c50] at H
             exact absurd H (by simp)
         ·rw [if_neg c25] at H
          have c25b0 : decide (x15_2 < ((rd_T148 t214 x28_1).f1)) = false := decide_eq_false c25
          clear c25
          have H' := Aside0.mk H
          clear H
          have hnb56 := NB218_211.out
          have hnc56 := NB211_218.out
          have hnb57 := NB218_212.out
          have hnc57 := NB212_218.out
          obtain ⟨hcz58_0, hcz58_1, hcz58_2⟩ := blk_cs3 BK218.out
          obtain ⟨hfz58_0, hfz58_1, hfz58_2⟩ := blk_fs3 BK218.out
          go_wp2
          repeat (go_quiet (fail); try go_wp2)
          go_roundg k2
          case measure => have := HK1.out; have := HK2.out; omega
          case rel => exact ⟨(x9_2), (wrap64 (x28_1 + 1)), (x213001_2), (by first | rfl | (simp; done) | (simp [*]; done)), H', ⟨by have := HK1.out; have := HK2.out; omega⟩, ⟨by (with_reducible repeat (first | apply Kd.R_alloc | apply Kd.R_drewN | apply Kd.R_drew)); exact HO_9.out⟩, ⟨by (with_reducible repeat (first | apply Kd.R_alloc | apply Kd.R_drewN | apply Kd.R_drew)); exact Kd.R_mono HO_26.out (fun _ hk => trivial)⟩, ⟨by (with_reducible repeat (first | refine blk_drewN ?_ _ | refine blk_drew ?_ | refine blk_alloc ?_ _)); exact BK211.out⟩, ⟨by (with_reducible repeat (first | refine blk_drewN ?_ _ | refine blk_drew ?_ | refine blk_alloc ?_ _)); exact BK212.out⟩, ⟨hbk⟩⟩
      ·rw [if_neg c19] at H
       exact absurd H (by simp)
     ·rw [if_neg c18] at H
      exact absurd H (by simp)
    ·rw [if_neg c17] at H
     have c17b0 : decide (x28_1 < (t214.length : Int)) = false := decide_eq_false c17
     clear c17
     obtain rfl := Option.some.inj H
     go_wp2
     repeat (go_quiet (fail); try go_wp2)
     go_ret
     exact ⟨_, hrf, by (with_reducible repeat (first | apply Kd.R_alloc | apply Kd.R_drewN | apply Kd.R_drew)); exact Kd.R_mono HO_9.out (fun _ hk => trivial), hbk⟩
end Go.Proofs.YtilnppdognejbaaGreatDoor.P
namespace Go.Proofs.YtilnppdognejbaaGreatDoor.P
open Go.RowKit Go.Proofs.YtilnppdognejbaaGreatDoorW.PrintWords Go.Proofs.YtilnppdognejbaaGreatDoorW.PrintLast Go.Proofs.YtilnppdognejbaaGreatDoorW.PrintMore
attribute [local go_sem] max2_int min2_int max_two min_two max_three min_three max_four min_four   -- for this text's walks alone
set_option linter.unusedVariables false
set_option linter.unusedSimpArgs false
def zone_BandMinutes.l0 : Nat → Int → List (S114) → Int → Int → Option (Int × Int)
 | 0, _, _, _, _ => none
 | k + 1, x11, x26, x27, x28 => if x28 < x27 then (if 0 ≤ x28 then (if x28 < (x26.length : Int) then (zone_BandMinutes.l0 k (wrap64 (x11 + (wrap64 (((rd_T114 x26 x28).f1) - ((rd_T114 x26 x28).f0))))) x26 x27 (wrap64 (x28 + 1))) else (none)) else (none)) else (some (x11, 0))
def zone_BandMinutes.f (k : Nat) (a0_0 : ByteArray) (a0_1 : Int) (l0_2 : List (S120)) (a1_0 : Int) (a1_1 : Int) (a2 : Int) (a3 : Int) : Option (Int × Int) := (zone_bandCheck.f k a0_0 a0_1 l0_2 a1_0 a1_1 a2 a3).bind fun t231 => (if t231 = 0 then ((zone_bands.f k a0_0 a0_1 l0_2 a1_0 a1_1 a2 a3).bind fun t232 => (zone_BandMinutes.l0 k 0 t232 (t232.length : Int) 0)) else (some (0, t231)))
set_option maxHeartbeats 8000000 in
set_option maxRecDepth 100000 in
theorem zone_BandMinutes.calls (k : Nat) (a0_0 : ByteArray) (a0_1 : Int) (A0_2 : Option Addr) (c0_2 : Nat) (l0_2 : List (S120)) (a1_0 : Int) (a1_1 : Int) (a2 : Int) (a3 : Int) (r1 : Int) (r2 : Int) (w : World) (hr0_2 : Kd.C k120 w A0_2 l0_2.length l0_2) (hc0_2 : l0_2.length ≤ c0_2) (h : zone_BandMinutes.f k a0_0 a0_1 l0_2 a1_0 a1_1 a2 a3 = some (r1, r2)) :
  Calls Tryz.prog 69 #[.agg #[.string a0_0, .int .i64 a0_1, .slice A0_2 l0_2.length c0_2], .agg #[.int .i64 a1_0, .int .i64 a1_1], .int .i64 a2, .int .i64 a3] w fun e w' => e = .returned (.tuple #[.int .i64 r1, .int .i64 r2]) ∧ Below w.heap.size w w' := by
 have hu83 := Tryz.underlying83
 have hu114 := Tryz.underlying114
 have HR0_2 := Aside0.mk hr0_2
 have HC0_2 := Aside0.mk hc0_2
 clear hr0_2 hc0_2
 have HB := Aside0.mk (Below.refl w.heap.size w)
 have H : ((zone_bandCheck.f k a0_0 a0_1 l0_2 a1_0 a1_1 a2 a3).bind fun t231 => (if t231 = 0 then ((zone_bands.f k a0_0 a0_1 l0_2 a1_0 a1_1 a2 a3).bind fun t232 => (zone_BandMinutes.l0 k 0 t232 (t232.length : Int) 0)) else (some (0, t231)))) = some (r1, r2) := h
 clear h
 replace H := Option.bind_eq_some_iff.mp H
 obtain ⟨t231, A50, H⟩ := H
 replace H : (if t231 = 0 then ((zone_bands.f k a0_0 a0_1 l0_2 a1_0 a1_1 a2 a3).bind fun t232 => (zone_BandMinutes.l0 k 0 t232 (t232.length : Int) 0)) else (some (0, t231))) = some (r1, r2) := H
 have A5 := Aside0.mk A50
 clear A50
 by_cases c6 : t231 = 0
 ·rw [if_pos c6] at H
  have c6b0 : (t231 == 0) = true := beq_iff_eq.mpr c6
  have c6b1 : (t231 != 0) = false := bne_eq_false_iff_eq.mpr c6
  clear c6
  replace H := Option.bind_eq_some_iff.mp H
  obtain ⟨t232, A70, H⟩ := H
  replace H : (zone_BandMinutes.l0 k 0 t232 (t232.length : Int) 0) = some (r1, r2) := H
  have A7 := Aside0.mk A70
  clear A70
  have H' := Aside0.mk H
  clear H
  go_enter Tryz.func69, Tryz.ntmps69
  go_wp2_with (first | ((with_reducible refine gate_dst (N := 4) rfl ?_); refine box_event ?hg (N := 4) ?hd (cs := #[.string a0_0, .int .i64 a0_1, .slice A0_2 l0_2.length c0_2]) (t := 83) ?hr ?_; (case hd => rfl); (case hg => rfl); (case hr => first | (go_simp; done) | (go_simp; rfl)); intro gb229 hg w8 hbox hb; have BK229 := Aside0.mk hbox; have GE229 := Aside0.mk ((by rw [hg]; exact (below_size hbk) : w.heap.size ≤ gb229)); replace HB := Aside0.mk (below_step hbk hb); clear hb hbox hg) | ((with_reducible refine gate_dst (N := 5) rfl ?_); refine box_event ?hg (N := 5) ?hd (cs := #[.int .i64 a1_0, .int .i64 a1_1]) (t := 114) ?hr ?_; (case hd => rfl); (case hg => rfl); (case hr => first | (go_simp; done) | (go_simp; rfl)); intro gb230 hg w9 hbox hb; have BK230 := Aside0.mk hbox; have GE230 := Aside0.mk ((by rw [hg]; exact (below_size hbk) : w.heap.size ≤ gb230)); have NB229_230 := Aside0.mk ((by rw [hg]; exact Nat.ne_of_lt (blk_ltB BK229.out) : gb229 ≠ gb230)); have NB230_229 := Aside0.mk ((by rw [hg]; exact Nat.ne_of_gt (blk_ltB BK229.out) : gb230 ≠ gb229)); replace BK229 := Aside0.mk (blk_belowB BK229.out hb); replace HB := Aside0.mk (below_step hbk hb); clear hb hbox hg; have hnb10 := NB229_230.out; have hnc10 := NB230_229.out; obtain ⟨hcz11_0, hcz11_1, hcz11_2⟩ := blk_cs3 BK229.out; obtain ⟨hfz11_0, hfz11_1, hfz11_2⟩ := blk_fs3 BK229.out; obtain ⟨hcz12_0, hcz12_1⟩ := blk_cs2 BK230.out; obtain ⟨hfz12_0, hfz12_1⟩ := blk_fs2 BK230.out) | ((with_reducible refine gate_callee (f := 89) rfl ?_); refine goesL_ (some 18) rfl rfl Tryz.func89 (by kernel_rfl) rfl #[.agg #[.string a0_0, .int .i64 a0_1, .slice A0_2 l0_2.length c0_2], .agg #[.int .i64 a1_0, .int .i64 a1_1], .int .i64 a2, .int .i64 a3] rfl hgl ?_; (with_reducible refine (zone_bandCheck.calls k a0_0 a0_1 _ _ l0_2 a1_0 a1_1 a2 a3 t231 _ ?side1 ?side2 A5.out).mono ?_); (case side1 => exact Kd.C_below HR0_2.out hbk); (case side2 => exact HC0_2.out); rintro e w13 ⟨rfl, hb⟩; refine ⟨_, rfl, ?_⟩; have n0_ := Aside0.mk (blk_belowB BK229.out hb); have n1_ := Aside0.mk (blk_belowB BK230.out hb); have n2_ := Aside0.mk (below_step hbk hb); clear BK229; clear BK230; clear HB; have BK229 := n0_; have BK230 := n1_; have HB := n2_; clear n0_ n1_ n2_; (try clear hb); (try clear hb2); (try clear hk); (try clear hi); obtain ⟨hcz14_0, hcz14_1, hcz14_2⟩ := blk_cs3 BK229.out; obtain ⟨hfz14_0, hfz14_1, hfz14_2⟩ := blk_fs3 BK229.out; obtain ⟨hcz15_0, hcz15_1⟩ := blk_cs2 BK230.out; obtain ⟨hfz15_0, hfz15_1⟩ := blk_fs2 BK230.out) | ((with_reducible refine gate_callee (f := 90) rfl ?_); refine goesL_ (some 26) rfl rfl Tryz.func90 (by kernel_rfl) rfl #[.agg #[.string a0_0, .int .i64 a0_1, .slice A0_2 l0_2.length c0_2], .agg #[.int .i64 a1_0, .int .i64 a1_1], .int .i64 a2, .int .i64 a3] rfl hgl ?_; (with_reducible refine (zone_bands.calls k a0_0 a0_1 _ _ l0_2 a1_0 a1_1 a2 a3 t232 _ ?side1 ?side2 A7.out).mono ?_); (case side1 => exact Kd.C_below HR0_2.out hbk); (case side2 => exact HC0_2.out); rintro e w16 ⟨v233, rfl, ho0, hb⟩; refine ⟨_, rfl, ?_⟩; have n0_ := Aside0.mk (Kd.R_lower (Kd.R_newB ho0 (bk BK230.out)) (below_size hbk)); have n1_ := Aside0.mk (blk_belowB BK229.out hb); have n2_ := Aside0.mk (blk_belowB BK230.out hb); have n3_ := Aside0.mk (below_step hbk hb); clear BK229; clear BK230; clear HB; have HO234 := n0_; have BK229 := n1_; have BK230 := n2_; have HB := n3_; clear n0_ n1_ n2_ n3_; (try clear hb); (try clear hb2); (try clear hk); (try clear hi); (try clear ho0); obtain ⟨Ao17, co17, eo17⟩ := Kd.R_slice HO234.out; subst eo17))
  go_loopg [11, 28] k (fun kq v11 v28 w' => ∃ (x11_1 : Int) (x28_1 : Int), v11 = .int .i64 x11_1 ∧ v28 = .int .i64 x28_1 ∧ Aside0 (zone_BandMinutes.l0 kq x11_1 t232 (t232.length : Int) x28_1 = some (r1, r2)) ∧ Aside0 (kq ≤ k) ∧ Aside0 (Kd.R k114 114 w' w.heap.size (fun k_ => k_ ≠ gb230) (.slice Ao17 t232.length co17) t232) ∧ Aside0 (w'.heap[gb229]? = some (.cells #[.string a0_0, .int .i64 a0_1, (.slice A0_2 l0_2.length c0_2)] 83 (0, 0))) ∧ Aside0 (w'.heap[gb230]? = some (.cells #[.int .i64 a1_0, .int .i64 a1_1] 114 (0, 0))) ∧ Aside0 (Below w.heap.size w w'))
  case atStart => exact ⟨(0), (0), (by first | rfl | (simp; done) | (simp [*]; done)), (by first | rfl | (simp; done) | (simp [*]; done)), H', ⟨Nat.le_refl _⟩, ⟨by (with_reducible repeat (first | apply Kd.R_alloc | apply Kd.R_drewN | apply Kd.R_drew)); exact Kd.R_mono HO234.out (fun _ hk => hk.2)⟩, ⟨by (with_reducible repeat (first | refine blk_drewN ?_ _ | refine blk_drew ?_ | refine blk_alloc ?_ _)); exact BK229.out⟩, ⟨by (with_reducible repeat (first | refine blk_drewN ?_ _ | refine blk_drew ?_ | refine blk_alloc ?_ _)); exact BK230.out⟩, ⟨hbk⟩⟩
  case round =>
   clear H'
   try clear c1
   try clear p2
   try clear c6
   try clear c6b0
   try clear c6b1
   try clear c8
   try clear c9
   try clear c10
   try clear hcz11_0
   try clear hcz11_1
   try clear hcz11_2
   try clear hcz12_0
   try clear hcz12_1
   try clear hcz14_0
   try clear hcz14_1
   try clear hcz14_2
   try clear hcz15_0
   try clear hcz15_1
   try clear hfz11_0
   try clear hfz11_1
   try clear hfz11_2
   try clear hfz12_0
   try clear hfz12_1
   try clear hfz14_0
   try clear hfz14_1
   try clear hfz14_2
   try clear hfz15_0
   try clear hfz15_1
   obtain ⟨x11_1, x28_1, rfl, rfl, HA, HK1, HO_26, BK229, BK230, HB⟩ := hrel
   cases gk with
   | zero => exact absurd HA.out (by simp [zone_BandMinutes.l0])
   | succ k1 =>
    have H := HA.out
    clear HA
    simp only [zone_BandMinutes.l0] at H
    by_cases c18 : x28_1 < (t232.length : Int)
    ·rw [if_pos c18] at H
     have c18b0 : decide (x28_1 < (t232.length : Int)) = true := decide_eq_true c18
     clear c18
     by_cases c19 : 0 ≤ x28_1
     ·rw [if_pos c19] at H
      have c19b0 : decide (0 ≤ x28_1) = true := decide_eq_true c19
      clear c19
      by_cases c20 : x28_1 < (t232.length : Int)
      ·rw [if_pos c20] at H
       have c20b0 : decide (x28_1 < (t232.length : Int)) = true := decide_eq_true c20
       clear c20
       have H' := Aside0.mk H
       clear H
       have p235 : 0 ≤ (x28_1 : Int) := of_decide_eq_true (by first | (with_reducible assumption) | assumption)
       have q235 : x28_1 < (t232.length : Int) := of_decide_eq_true (by first | (with_reducible assumption) | assumption)
       obtain ⟨ad235, e235, hx235_0, hx235_1⟩ := at_T114 (Kd.R_reads' HO_26.out).2.2 x28_1 p235 q235
       cases e235
       replace p235 := eq_true p235
       replace q235 := eq_true q235
       go_wp2_with (first | ((with_reducible refine gate_dst (N := 13) rfl ?_); refine box_event ?hg (N := 13) ?hd (cs := #[.int .i64 0, .int .i64 0]) (t := 114) ?hr ?_; (case hd => rfl); (case hg => rfl); (case hr => first | (go_simp; done) | (go_simp; rfl)); intro gb236 hg w21 hbox hb; have BK236 := Aside0.mk hbox; have GE236 := Aside0.mk ((by rw [hg]; exact (below_size hbk) : w.heap.size ≤ gb236)); have NB229_236 := Aside0.mk ((by rw [hg]; exact Nat.ne_of_lt (blk_ltB BK229.out) : gb229 ≠ gb236)); have NB236_229 := Aside0.mk ((by rw [hg]; exact Nat.ne_of_gt (blk_ltB BK229.out) : gb236 ≠ gb229)); have NB230_236 := Aside0.mk ((by rw [hg]; exact Nat.ne_of_lt (blk_ltB BK230.out) : gb230 ≠ gb236)); have NB236_230 := Aside0.mk ((by rw [hg]; exact Nat.ne_of_gt (blk_ltB BK230.out) : gb236 ≠ gb230)); replace HO_26 := Aside0.mk (Kd.R_below (Kd.R_elderB (by (with_reducible repeat (first | apply Kd.R_alloc | apply Kd.R_drewN | apply Kd.R_drew)); exact HO_26.out) gb236 (Nat.le_of_eq hg.symm)) hb); replace BK229 := Aside0.mk (blk_belowB BK229.out hb); replace BK230 := Aside0.mk (blk_belowB BK230.out hb); replace HB := Aside0.mk (below_step hbk hb); clear hb hbox hg; have hnb22 := NB236_229.out; have hnc22 := NB229_236.out; have hnb23 := NB236_230.out; have hnc23 := NB230_236.out; obtain ⟨hcz24_0, hcz24_1⟩ := blk_cs2 BK236.out; obtain ⟨hfz24_0, hfz24_1⟩ := blk_fs2 BK236.out))
       go_roundg k1
       case measure => have := HK1.out; omega
       case rel => exact ⟨(wrap64 (x11_1 + (wrap64 (((rd_T114 t232 x28_1).f1) - ((rd_T114 t232 x28_1).f0))))), (wrap64 (x28_1 + 1)), (by first | rfl | (simp; done) | (simp [*]; done)), (by first | rfl | (simp; done) | (simp [*]; done)), H', ⟨by have := HK1.out; omega⟩, ⟨by (with_reducible repeat (first | apply Kd.R_alloc | apply Kd.R_drewN | apply Kd.R_drew)); exact Kd.R_mono (Kd.R_far (p := ⟨gb236, 1, none⟩) (Kd.R_far (p := ⟨gb236, 0, none⟩) (Kd.R_mono HO_26.out (fun k_ hk => (⟨hk, hk.2⟩ : _ ∧ k_ ≠ gb236))) (fun _ hk => hk.2) (.int .i64 ((rd_T114 t232 x28_1).f0))) (fun _ hk => hk.2) (.int .i64 ((rd_T114 t232 x28_1).f1))) (fun _ hk => hk.1.1)⟩, ⟨by (with_reducible repeat (first | refine blk_drewN ?_ _ | refine blk_drew ?_ | refine blk_alloc ?_ _)); refine blk_far ?_ NB229_236.out _; refine blk_far ?_ NB229_236.out _; (with_reducible repeat (first | refine blk_drewN ?_ _ | refine blk_drew ?_ | refine blk_alloc ?_ _)); exact BK229.out⟩, ⟨by (with_reducible repeat (first | refine blk_drewN ?_ _ | refine blk_drew ?_ | refine blk_alloc ?_ _)); refine blk_far ?_ NB230_236.out _; refine blk_far ?_ NB230_236.out _; (with_reducible repeat (first | refine blk_drewN ?_ _ | refine blk_drew ?_ | refine blk_alloc ?_ _)); exact BK230.out⟩, ⟨hbk⟩⟩
      ·rw [if_neg c20] at H
       exact absurd H (by simp)
     ·rw [if_neg c19] at H
      exact absurd H (by simp)
    ·rw [if_neg c18] at H
     have c18b0 : decide (x28_1 < (t232.length : Int)) = false := decide_eq_false c18
     clear c18
     simp only [Option.some.injEq, Prod.mk.injEq] at H
     obtain ⟨rfl, rfl⟩ := H
     go_wp2
     go_ret2
     exact ⟨hrf, hbk⟩
 ·rw [if_neg c6] at H
  have c6b0 : (t231 == 0) = false := beq_eq_false_iff_ne.mpr c6
  have c6b1 : (t231 != 0) = true := bne_iff_ne.mpr c6
  simp only [Option.some.injEq, Prod.mk.injEq] at H
  obtain ⟨rfl, rfl⟩ := H
  go_enter Tryz.func69, Tryz.ntmps69
  go_wp2_with (first | ((with_reducible refine gate_dst (N := 4) rfl ?_); refine box_event ?hg (N := 4) ?hd (cs := #[.string a0_0, .int .i64 a0_1, .slice A0_2 l0_2.length c0_2]) (t := 83) ?hr ?_; (case hd => rfl); (case hg => rfl); (case hr => first | (go_simp; done) | (go_simp; rfl)); intro gb229 hg w25 hbox hb; have BK229 := Aside0.mk hbox; have GE229 := Aside0.mk ((by rw [hg]; exact (below_size hbk) : w.heap.size ≤ gb229)); replace HB := Aside0.mk (below_step hbk hb); clear hb hbox hg) | ((with_reducible refine gate_dst (N := 5) rfl ?_); refine box_event ?hg (N := 5) ?hd (cs := #[.int .i64 a1_0, .int .i64 a1_1]) (t := 114) ?hr ?_; (case hd => rfl); (case hg => rfl); (case hr => first | (go_simp; done) | (go_simp; rfl)); intro gb230 hg w26 hbox hb; have BK230 := Aside0.mk hbox; have GE230 := Aside0.mk ((by rw [hg]; exact (below_size hbk) : w.heap.size ≤ gb230)); have NB229_230 := Aside0.mk ((by rw [hg]; exact Nat.ne_of_lt (blk_ltB BK229.out) : gb229 ≠ gb230)); have NB230_229 := Aside0.mk ((by rw [hg]; exact Nat.ne_of_gt (blk_ltB BK229.out) : gb230 ≠ gb229)); replace BK229 := Aside0.mk (blk_belowB BK229.out hb); replace HB := Aside0.mk (below_step hbk hb); clear hb hbox hg; have hnb27 := NB229_230.out; have hnc27 := NB230_229.out; obtain ⟨hcz28_0, hcz28_1, hcz28_2⟩ := blk_cs3 BK229.out; obtain ⟨hfz28_0, hfz28_1, hfz28_2⟩ := blk_fs3 BK229.out; obtain ⟨hcz29_0, hcz29_1⟩ := blk_cs2 BK230.out; obtain ⟨hfz29_0, hfz29_1⟩ := blk_fs2 BK230.out) | ((with_reducible refine gate_callee (f := 89) rfl ?_); refine goesL_ (some 18) rfl rfl Tryz.func89 (by kernel_rfl) rfl #[.agg #[.string a0_0, .int .i64 a0_1, .slice A0_2 l0_2.length c0_2], .agg #[.int .i64 a1_0, .int .i64 a1_1], .int .i64 a2, .int .i64 a3] rfl hgl ?_; (with_reducible refine (zone_bandCheck.calls k a0_0 a0_1 _ _ l0_2 a1_0 a1_1 a2 a3 t231 _ ?side1 ?side2 A5.out).mono ?_); (case side1 => exact Kd.C_below HR0_2.out hbk); (case side2 => exact HC0_2.out); rintro e w30 ⟨rfl, hb⟩; refine ⟨_, rfl, ?_⟩; have n0_ := Aside0.mk (blk_belowB BK229.out hb); have n1_ := Aside0.mk (blk_belowB BK230.out hb); have n2_ := Aside0.mk (below_step hbk hb); clear BK229; clear BK230; clear HB; have BK229 := n0_; have BK230 := n1_; have HB := n2_; clear n0_ n1_ n2_; (try clear hb); (try clear hb2); (try clear hk); (try clear hi)))
  go_ret2
  exact ⟨hrf, hbk⟩
end Go.Proofs.YtilnppdognejbaaGreatDoor.P
namespace Go.Proofs.YtilnppdognejbaaGreatDoor.P
open Go.RowKit Go.Proofs.YtilnppdognejbaaGreatDoorW.PrintWords Go.Proofs.YtilnppdognejbaaGreatDoorW.PrintLast Go.Proofs.YtilnppdognejbaaGreatDoorW.PrintMore
attribute [local go_sem] max2_int min2_int max_two min_two max_three min_three max_four min_four   -- for this text's walks alone
set_option linter.unusedVariables false
set_option linter.unusedSimpArgs false
def zone_OffsetAt.f (k : Nat) (a0_0 : ByteArray) (a0_1 : Int) (l0_2 : List (S120)) (a1 : Int) : Option (Int × Int) := (zone_Validate.f k a0_0 a0_1 l0_2).bind fun t238 => (if t238 = 0 then (if a1 < 0 then (some (0, 5)) else (if a1 ≥ 52596000 then (some (0, 5)) else ((zone_segments.f a0_0 a0_1 l0_2 a1 (wrap64 (a1 + 1))).bind fun t239 => (if 0 < (t239.length : Int) then (some ((rd_T148 t239 0).f2, 0)) else (none))))) else (some (0, t238)))
set_option maxHeartbeats 8000000 in
set_option maxRecDepth 100000 in
theorem zone_OffsetAt.calls (k : Nat) (a0_0 : ByteArray) (a0_1 : Int) (A0_2 : Option Addr) (c0_2 : Nat) (l0_2 : List (S120)) (a1 : Int) (r1 : Int) (r2 : Int) (w : World) (hr0_2 : Kd.C k120 w A0_2 l0_2.length l0_2) (hc0_2 : l0_2.length ≤ c0_2) (h : zone_OffsetAt.f k a0_0 a0_1 l0_2 a1 = some (r1, r2)) :
  Calls Tryz.prog 70 #[.agg #[.string a0_0, .int .i64 a0_1, .slice A0_2 l0_2.length c0_2], .int .i64 a1] w fun e w' => e = .returned (.tuple #[.int .i64 r1, .int .i64 r2]) ∧ Below w.heap.size w w' := by
 have hu83 := Tryz.underlying83
 have hu114 := Tryz.underlying114
 have HR0_2 := Aside0.mk hr0_2
 have HC0_2 := Aside0.mk hc0_2
 clear hr0_2 hc0_2
 have HB := Aside0.mk (Below.refl w.heap.size w)
 have H : ((zone_Validate.f k a0_0 a0_1 l0_2).bind fun t238 => (if t238 = 0 then (if a1 < 0 then (some (0, 5)) else (if a1 ≥ 52596000 then (some (0, 5)) else ((zone_segments.f a0_0 a0_1 l0_2 a1 (wrap64 (a1 + 1))).bind fun t239 => (if 0 < (t239.length : Int) then (some ((rd_T148 t239 0).f2, 0)) else (none))))) else (some (0, t238)))) = some (r1, r2) := h
 clear h
 replace H := Option.bind_eq_some_iff.mp H
 obtain ⟨t238, A30, H⟩ := H
 replace H : (if t238 = 0 then (if a1 < 0 then (some (0, 5)) else (if a1 ≥ 52596000 then (some (0, 5)) else ((zone_segments.f a0_0 a0_1 l0_2 a1 (wrap64 (a1 + 1))).bind fun t239 => (if 0 < (t239.length : Int) then (some ((rd_T148 t239 0).f2, 0)) else (none))))) else (some (0, t238))) = some (r1, r2) := H
 have A3 := Aside0.mk A30
 clear A30
 by_cases c4 : t238 = 0
 ·rw [if_pos c4] at H
  have c4b0 : (t238 == 0) = true := beq_iff_eq.mpr c4
  have c4b1 : (t238 != 0) = false := bne_eq_false_iff_eq.mpr c4
  clear c4
  by_cases c5 : a1 < 0
  ·rw [if_pos c5] at H
   have c5b0 : decide (a1 < 0) = true := decide_eq_true c5
   clear c5
   simp only [Option.some.injEq, Prod.mk.injEq] at H
   obtain ⟨rfl, rfl⟩ := H
   go_enter Tryz.func70, Tryz.ntmps70
   go_wp2_with (first | ((with_reducible refine gate_dst (N := 2) rfl ?_); refine box_event ?hg (N := 2) ?hd (cs := #[.string a0_0, .int .i64 a0_1, .slice A0_2 l0_2.length c0_2]) (t := 83) ?hr ?_; (case hd => rfl); (case hg => rfl); (case hr => first | (go_simp; done) | (go_simp; rfl)); intro gb237 hg w6 hbox hb; have BK237 := Aside0.mk hbox; have GE237 := Aside0.mk ((by rw [hg]; exact (below_size hbk) : w.heap.size ≤ gb237)); replace HB := Aside0.mk (below_step hbk hb); clear hb hbox hg; obtain ⟨hcz7_0, hcz7_1, hcz7_2⟩ := blk_cs3 BK237.out; obtain ⟨hfz7_0, hfz7_1, hfz7_2⟩ := blk_fs3 BK237.out) | ((with_reducible refine gate_callee (f := 72) rfl ?_); refine goesL_ (some 8) rfl rfl Tryz.func72 (by kernel_rfl) rfl #[.agg #[.string a0_0, .int .i64 a0_1, .slice A0_2 l0_2.length c0_2]] rfl hgl ?_; (with_reducible refine (zone_Validate.calls k a0_0 a0_1 _ _ l0_2 t238 _ ?side1 ?side2 A3.out).mono ?_); (case side1 => exact Kd.C_below HR0_2.out hbk); (case side2 => exact HC0_2.out); rintro e w8 ⟨rfl, hb⟩; refine ⟨_, rfl, ?_⟩; have n0_ := Aside0.mk (blk_belowB BK237.out hb); have n1_ := Aside0.mk (below_step hbk hb); clear BK237; clear HB; have BK237 := n0_; have HB := n1_; clear n0_ n1_; (try clear hb); (try clear hb2); (try clear hk); (try clear hi)))
   go_ret2
   exact ⟨hrf, hbk⟩
  ·rw [if_neg c5] at H
   have c5b0 : decide (a1 < 0) = false := decide_eq_false c5
   clear c5
   by_cases c9 : a1 ≥ 52596000
   ·rw [if_pos c9] at H
    have c9b0 : decide (52596000 ≤ a1) = true := decide_eq_true c9
    clear c9
    simp only [Option.some.injEq, Prod.mk.injEq] at H
    obtain ⟨rfl, rfl⟩ := H
    go_enter Tryz.func70, Tryz.ntmps70
    go_wp2_with (first | ((with_reducible refine gate_dst (N := 2) rfl ?_); refine box_event ?hg (N := 2) ?hd (cs := #[.string a0_0, .int .i64 a0_1, .slice A0_2 l0_2.length c0_2]) (t := 83) ?hr ?_; (case hd => rfl); (case hg => rfl); (case hr => first | (go_simp; done) | (go_simp; rfl)); intro gb237 hg w10 hbox hb; have BK237 := Aside0.mk hbox; have GE237 := Aside0.mk ((by rw [hg]; exact (below_size hbk) : w.heap.size ≤ gb237)); replace HB := Aside0.mk (below_step hbk hb); clear hb hbox hg; obtain ⟨hcz11_0, hcz11_1, hcz11_2⟩ := blk_cs3 BK237.out; obtain ⟨hfz11_0, hfz11_1, hfz11_2⟩ := blk_fs3 BK237.out) | ((with_reducible refine gate_callee (f := 72) rfl ?_); refine goesL_ (some 8) rfl rfl Tryz.func72 (by kernel_rfl) rfl #[.agg #[.string a0_0, .int .i64 a0_1, .slice A0_2 l0_2.length c0_2]] rfl hgl ?_; (with_reducible refine (zone_Validate.calls k a0_0 a0_1 _ _ l0_2 t238 _ ?side1 ?side2 A3.out).mono ?_); (case side1 => exact Kd.C_below HR0_2.out hbk); (case side2 => exact HC0_2.out); rintro e w12 ⟨rfl, hb⟩; refine ⟨_, rfl, ?_⟩; have n0_ := Aside0.mk (blk_belowB BK237.out hb); have n1_ := Aside0.mk (below_step hbk hb); clear BK237; clear HB; have BK237 := n0_; have HB := n1_; clear n0_ n1_; (try clear hb); (try clear hb2); (try clear hk); (try clear hi)))
    go_ret2
    exact ⟨hrf, hbk⟩
   ·rw [if_neg c9] at H
    have c9b0 : decide (52596000 ≤ a1) = false := decide_eq_false c9
    clear c9
    replace H := Option.bind_eq_some_iff.mp H
    obtain ⟨t239, A130, H⟩ := H
    replace H : (if 0 < (t239.length : Int) then (some ((rd_T148 t239 0).f2, 0)) else (none)) = some (r1, r2) := H
    have A13 := Aside0.mk A130
    clear A130
    by_cases c14 : 0 < (t239.length : Int)
    ·rw [if_pos c14] at H
     have c14b0 : decide (0 < (t239.length : Int)) = true := decide_eq_true c14
     have c14b1 : decide (0 < t239.length) = true := decide_eq_true (by omega)
     clear c14
     simp only [Option.some.injEq, Prod.mk.injEq] at H
     obtain ⟨rfl, rfl⟩ := H
     go_enter Tryz.func70, Tryz.ntmps70
     go_wp2_with (first | ((with_reducible refine gate_dst (N := 2) rfl ?_); refine box_event ?hg (N := 2) ?hd (cs := #[.string a0_0, .int .i64 a0_1, .slice A0_2 l0_2.length c0_2]) (t := 83) ?hr ?_; (case hd => rfl); (case hg => rfl); (case hr => first | (go_simp; done) | (go_simp; rfl)); intro gb237 hg w15 hbox hb; have BK237 := Aside0.mk hbox; have GE237 := Aside0.mk ((by rw [hg]; exact (below_size hbk) : w.heap.size ≤ gb237)); replace HB := Aside0.mk (below_step hbk hb); clear hb hbox hg; obtain ⟨hcz16_0, hcz16_1, hcz16_2⟩ := blk_cs3 BK237.out; obtain ⟨hfz16_0, hfz16_1, hfz16_2⟩ := blk_fs3 BK237.out) | ((with_reducible refine gate_callee (f := 72) rfl ?_); refine goesL_ (some 8) rfl rfl Tryz.func72 (by kernel_rfl) rfl #[.agg #[.string a0_0, .int .i64 a0_1, .slice A0_2 l0_2.length c0_2]] rfl hgl ?_; (with_reducible refine (zone_Validate.calls k a0_0 a0_1 _ _ l0_2 t238 _ ?side1 ?side2 A3.out).mono ?_); (case side1 => exact Kd.C_below HR0_2.out hbk); (case side2 => exact HC0_2.out); rintro e w17 ⟨rfl, hb⟩; refine ⟨_, rfl, ?_⟩; have n0_ := Aside0.mk (blk_belowB BK237.out hb); have n1_ := Aside0.mk (below_step hbk hb); clear BK237; clear HB; have BK237 := n0_; have HB := n1_; clear n0_ n1_; (try clear hb); (try clear hb2); (try clear hk); (try clear hi); obtain ⟨hcz18_0, hcz18_1, hcz18_2⟩ := blk_cs3 BK237.out; obtain ⟨hfz18_0, hfz18_1, hfz18_2⟩ := blk_fs3 BK237.out) | ((with_reducible refine gate_callee (f := 91) rfl ?_); refine goesL_ (some 23) rfl rfl Tryz.func91 (by kernel_rfl) rfl #[.agg #[.string a0_0, .int .i64 a0_1, .slice A0_2 l0_2.length c0_2], .agg #[.int .i64 a1, .int .i64 (wrap64 (a1 + 1))]] rfl hgl ?_; (with_reducible refine (zone_segments.calls a0_0 a0_1 _ _ l0_2 a1 (wrap64 (a1 + 1)) t239 _ ?side1 ?side2 A13.out).mono ?_); (case side1 => exact Kd.C_below HR0_2.out hbk); (case side2 => exact HC0_2.out); rintro e w19 ⟨v240, rfl, ho0, hb⟩; refine ⟨_, rfl, ?_⟩; have n0_ := Aside0.mk (Kd.R_lower ho0 (below_size hbk)); have n1_ := Aside0.mk (blk_belowB BK237.out hb); have n2_ := Aside0.mk (below_step hbk hb); clear BK237; clear HB; have HO241 := n0_; have BK237 := n1_; have HB := n2_; clear n0_ n1_ n2_; (try clear hb); (try clear hb2); (try clear hk); (try clear hi); (try clear ho0); obtain ⟨Ao20, co20, eo20⟩ := Kd.R_slice HO241.out; subst eo20; have p242 : 0 ≤ (0 : Int) := (by omega); have q242 : 0 < (t239.length : Int) := of_decide_eq_true (by first | (with_reducible assumption) | assumption); obtain ⟨ad242, e242, hx242_0, hx242_1, hx242_2⟩ := at_T148 (Kd.R_reads' HO241.out).2.2 0 p242 q242; cases e242; have qi242 : (0 < t239.length) = True := eq_true (by omega); (try rw [show ((0 : Int)).toNat = 0 from rfl] at hx242_0); (try rw [show 0 * 3 = 0 from rfl] at hx242_0); (try rw [Addr.add_zero'] at hx242_0); (try rw [show ((0 : Int)).toNat = 0 from rfl] at hx242_1); (try rw [show 0 * 3 = 0 from rfl] at hx242_1); (try rw [Addr.add_zero'] at hx242_1); (try rw [show ((0 : Int)).toNat = 0 from rfl] at hx242_2); (try rw [show 0 * 3 = 0 from rfl] at hx242_2); (try rw [Addr.add_zero'] at hx242_2); replace p242 := eq_true p242; replace q242 := eq_true q242))
     go_ret2
     exact ⟨hrf, hbk⟩
    ·rw [if_neg c14] at H
     exact absurd H (by simp)
 ·rw [if_neg c4] at H
  have c4b0 : (t238 == 0) = false := beq_eq_false_iff_ne.mpr c4
  have c4b1 : (t238 != 0) = true := bne_iff_ne.mpr c4
  simp only [Option.some.injEq, Prod.mk.injEq] at H
  obtain ⟨rfl, rfl⟩ := H
  go_enter Tryz.func70, Tryz.ntmps70
  go_wp2_with (first | ((with_reducible refine gate_dst (N := 2) rfl ?_); refine box_event ?hg (N := 2) ?hd (cs := #[.string a0_0, .int .i64 a0_1, .slice A0_2 l0_2.length c0_2]) (t := 83) ?hr ?_; (case hd => rfl); (case hg => rfl); (case hr => first | (go_simp; done) | (go_simp; rfl)); intro gb237 hg w21 hbox hb; have BK237 := Aside0.mk hbox; have GE237 := Aside0.mk ((by rw [hg]; exact (below_size hbk) : w.heap.size ≤ gb237)); replace HB := Aside0.mk (below_step hbk hb); clear hb hbox hg; obtain ⟨hcz22_0, hcz22_1, hcz22_2⟩ := blk_cs3 BK237.out; obtain ⟨hfz22_0, hfz22_1, hfz22_2⟩ := blk_fs3 BK237.out) | ((with_reducible refine gate_callee (f := 72) rfl ?_); refine goesL_ (some 8) rfl rfl Tryz.func72 (by kernel_rfl) rfl #[.agg #[.string a0_0, .int .i64 a0_1, .slice A0_2 l0_2.length c0_2]] rfl hgl ?_; (with_reducible refine (zone_Validate.calls k a0_0 a0_1 _ _ l0_2 t238 _ ?side1 ?side2 A3.out).mono ?_); (case side1 => exact Kd.C_below HR0_2.out hbk); (case side2 => exact HC0_2.out); rintro e w23 ⟨rfl, hb⟩; refine ⟨_, rfl, ?_⟩; have n0_ := Aside0.mk (blk_belowB BK237.out hb); have n1_ := Aside0.mk (below_step hbk hb); clear BK237; clear HB; have BK237 := n0_; have HB := n1_; clear n0_ n1_; (try clear hb); (try clear hb2); (try clear hk); (try clear hi)))
  go_ret2
  exact ⟨hrf, hbk⟩
end Go.Proofs.YtilnppdognejbaaGreatDoor.P
