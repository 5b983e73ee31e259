/- TotalsPays: the walk. -/
import Derived.Test.YtgkdmkjfcmilgaaGreatDoorK5
import Derived.WalkKit
import Derived.WalkSpells
import Derived.WalkLawsBesides
set_option linter.unusedVariables false
set_option linter.unusedSimpArgs false
namespace Go.X
open Go.Proofs Go.RowKit
set_option maxHeartbeats 2000000 in
set_option maxRecDepth 100000 in
theorem pays_walk (cr gu : Int) (w : World) (hn : Hid (Names w)) :
    Calls Tryz.prog 4 #[.int .i64 cr, .int .i64 gu] w fun e w' => e = .returned (.bool true) ∧ RowKit.Below w.heap.size w w' := by
  go_enter Tryz.func4, Tryz.ntmps4
  go_wp2_with (fail)
  refine (c11 _).mono ?_
  rintro e w1 ⟨v, ⟨a, b, c, d, e', f, g, n, p1, p2, p3, p4, p5, p6, n1, n2, n3, n4, n5, n6, k1, k2, k3, k4, k5, k6, rfl⟩, rfl, hb1, -⟩
  have HB1 : Hid (RowKit.Below _ _ _) := hb1
  clear hb1
  go_wp2_with (go_at_call 12; go_in)
  refine (c11 _).mono ?_
  rintro e w2 ⟨v2, -, rfl, hb2, hchk⟩
  have HB2 : Hid (RowKit.Below _ _ _) := hb2
  have HC : Hid (Calls _ _ _ _ _) := hchk
  clear hb2 hchk
  go_wp2_with (fail)
  refine HC.out.mono ?_
  rintro e w3 ⟨rfl, hb3⟩
  have HB3 : Hid (RowKit.Below _ _ _) := hb3
  clear hb3
  go_wp2_with (fail)
  have hA : RowKit.Below w.heap.size w w3 := ((((HB1.out.alloc HB1.out.size _).alloc (by have := HB1.out.size; simp; omega) _).trans (HB2.out.mono (by have := HB1.out.size; simp; omega))).trans (HB3.out.mono (by have := HB1.out.size; have := HB2.out.size; simp at this; omega)))
  refine (c10 (hn.out.below hA)).mono ?_
  rintro e w4 ⟨rfl, hb4⟩
  have HB4 : Hid (RowKit.Below _ _ _) := hb4
  have HA : Hid (RowKit.Below _ _ _) := hA
  clear hb4 hA
  go_wp2
  go_ret
  exact ⟨rfl, HA.out.trans (HB4.out.mono HA.out.size)⟩
end Go.X
