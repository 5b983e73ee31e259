/- totals.sorted: the keys of a set of numbers, ascending. -/
import Derived.Test.YtgkdmkjfcmilgaaGreatDoorProg
import Derived.KernelRfl
import Derived.Maps.RangeWalk
import Derived.Maps.OwnSet
import Derived.Lib.SlKeysI
import Derived.Maps.AppendAt
import Derived.Shelf.Lay
import Derived.Shelf.Sort.Plain
import Derived.WalkKit
import Derived.WalkSpells
import Derived.OwnWalk
set_option linter.unusedVariables false
set_option linter.unusedSimpArgs false
namespace Go.Proofs
open Go.Shelf
/-- Where the library's sort lies here: its functions' and types' numbers. -/
def Tryz.lays191_ren : Ren where
  f := fun x => match x with
    | 191 => 39
    | 189 => 64
    | 125 => 98
    | 257 => 97
    | 128 => 124
    | 129 => 125
    | 294 => 115
    | 295 => 116
    | 296 => 117
    | 297 => 118
    | 298 => 119
    | 299 => 120
    | 216 => 121
    | 300 => 122
    | 301 => 123
    | 328 => 136
    | 329 => 137
    | 330 => 138
    | 331 => 139
    | 332 => 140
    | 215 => 141
    | 343 => 151
    | n => n
  t := fun x => match x with
    | 28 => 22
    | 0 => 0
    | 3 => 3
    | 46 => 42
    | 51 => 174
    | 53 => 176
    | 4 => 4
    | 183 => 168
    | 182 => 167
    | 131 => 128
    | 5 => 5
    | 9 => 9
    | 218 => 188
    | 222 => 192
    | 228 => 202
    | 229 => 101
    | n => n
  g := fun n => n
theorem Tryz.lays191 : Lays.n191 Tryz.prog Tryz.lays191_ren where
  mixed := by kernel_rfl
  f125 := by kernel_rfl
  f128 := by kernel_rfl
  f129 := by kernel_rfl
  f189 := by kernel_rfl
  f191 := by kernel_rfl
  f215 := by kernel_rfl
  f216 := by kernel_rfl
  f257 := by kernel_rfl
  f294 := by kernel_rfl
  f295 := by kernel_rfl
  f296 := by kernel_rfl
  f297 := by kernel_rfl
  f298 := by kernel_rfl
  f299 := by kernel_rfl
  f300 := by kernel_rfl
  f301 := by kernel_rfl
  f328 := by kernel_rfl
  f329 := by kernel_rfl
  f330 := by kernel_rfl
  f331 := by kernel_rfl
  f332 := by kernel_rfl
  f343 := by kernel_rfl
  t0 := Tryz.underlying0
  a0 := Tryz.isAgg0
  z0 := Tryz.sizeOf0
  v0 := Tryz.zeroValue0
  t3 := Tryz.underlying3
  a3 := Tryz.isAgg3
  z3 := Tryz.sizeOf3
  v3 := Tryz.zeroValue3
  t4 := Tryz.underlying4
  a4 := Tryz.isAgg4
  z4 := Tryz.sizeOf4
  v4 := Tryz.zeroValue4
  t5 := Tryz.underlying5
  a5 := Tryz.isAgg5
  z5 := Tryz.sizeOf5
  v5 := Tryz.zeroValue5
  t9 := Tryz.underlying9
  a9 := Tryz.isAgg9
  z9 := Tryz.sizeOf9
  v9 := Tryz.zeroValue9
  t28 := Tryz.underlying22
  a28 := Tryz.isAgg22
  z28 := Tryz.sizeOf22
  v28 := Tryz.zeroValue22
  t46 := Tryz.underlying42
  a46 := Tryz.isAgg42
  z46 := Tryz.sizeOf42
  v46 := Tryz.zeroValue42
  t51 := Tryz.underlying174
  a51 := Tryz.isAgg174
  z51 := Tryz.sizeOf174
  v51 := Tryz.zeroValue174
  t53 := Tryz.underlying176
  a53 := Tryz.isAgg176
  z53 := Tryz.sizeOf176
  v53 := Tryz.zeroValue176
  t131 := Tryz.underlying128
  a131 := Tryz.isAgg128
  z131 := Tryz.sizeOf128
  v131 := Tryz.zeroValue128
  t182 := Tryz.underlying167
  a182 := Tryz.isAgg167
  z182 := Tryz.sizeOf167
  v182 := Tryz.zeroValue167
  t183 := Tryz.underlying168
  a183 := Tryz.isAgg168
  z183 := Tryz.sizeOf168
  v183 := Tryz.zeroValue168
  t218 := Tryz.underlying188
  a218 := Tryz.isAgg188
  z218 := Tryz.sizeOf188
  v218 := Tryz.zeroValue188
  t222 := Tryz.underlying192
  a222 := Tryz.isAgg192
  z222 := Tryz.sizeOf192
  v222 := Tryz.zeroValue192
  t228 := Tryz.underlying202
  a228 := Tryz.isAgg202
  z228 := Tryz.sizeOf202
  v228 := Tryz.zeroValue202
  t229 := Tryz.underlying101
  a229 := Tryz.isAgg101
  z229 := Tryz.sizeOf101
  v229 := Tryz.zeroValue101
end Go.Proofs
namespace Go.X
open Go Go.Proofs Go.RowKit Go.Maps Go.Sort
theorem law3 : Keyed Tryz.prog 3 := int_keyed Tryz.underlying3
theorem info3 : (Tryz.prog.info? 3).map (fun i => (i.zero, i.size, i.bytes)) = some (some (.int .i64 0), 1, 8) := by kernel_rfl
theorem plainElem_bool_inv {H : Type} {P : Program} {e : TypeId} (he : P.underlying e = some .bool) {v : Value} {z : DataW H × List MemPlace} (h : plainElem P e v = some z) : ∃ c, v = .bool c ∧ z = (.lit (.bool c), []) := by
  unfold plainElem at h
  rw [he] at h
  cases v <;> simp at h
  exact ⟨_, rfl, h.symm⟩
set_option maxRecDepth 100000 in
set_option maxHeartbeats 1000000 in
theorem sorted_any {H : Type} (b n : Nat) (D0 : DataW H) (w : World) (hown : w.ownsMap Tryz.prog 3 (plainElem Tryz.prog 4) b n D0) (hmax : Maps.size D0 ≤ maxLen) (hbytes : 8 * Maps.size D0 ≤ 140737488355328) (hne : intKeys D0 ≠ []) :
    Calls Tryz.prog 24 #[.map (some b)] w fun e w' => ∃ (v : Value) (ss : List Int), e = .returned v ∧ ss.Perm (intKeys D0) ∧ w'.ownsRow w.heap.size 3 1 v ss.length ((ss.mergeSort leI).map encZ) ∧ Below w.heap.size w w' := by
  obtain ⟨i0, hi, hz0, hz1, hz2⟩ := info_parts info3
  have hbl := hown.lt
  go_enter Tryz.func24, Tryz.ntmps24
  go_wp2_with (first
    | (at_range; refine wpList_range_own _ rfl _ 79 rfl 3 4 law3 Tryz.underlying79 _ b n _ rfl hown ?_; intro w0 hrg0 hg0 hs0)
    | go_in)
  go_frame
  go_loopw [3] (fun v wr => ∃ (left : Lit → Bool) (cnt : Nat) (ss : List Int), wr.ranges Tryz.prog 3 (plainElem Tryz.prog 4) b w.heap.size n D0 left cnt ∧ ss.length + cnt ≤ Maps.size D0 ∧
      wr.ownsRow w.heap.size 3 1 v ss.length (ss.map encZ) ∧ CollectedI D0 left ss ∧ Below w.heap.size w wr)
    (fun _ wr => wr.rangeLeft b w.heap.size)
  case atStart =>
    exact ⟨_, _, [], hrg0, by simp, ⟨rfl, .inl ⟨rfl, rfl⟩⟩, CollectedI.start D0, (Below.refl _ _).grown hg0 (Nat.le_refl _) (fun j hj => by cases hj)⟩
  case round =>
    obtain ⟨left, cnt, ss, hrg, hcs, hrow, hC, hnx⟩ := hrel
    go_wp2_with (first
      | (at_next; refine wpList_next_ranges _ rfl _ rfl 3 law3 (plainElem Tryz.prog 4) encZ Value.bool (fun key kl hk => by obtain ⟨x, hx, _⟩ := Maps.keyOf_i64 Tryz.underlying3 hk; exact ⟨x, hx⟩) (fun v y hv => by obtain ⟨c, rfl, _⟩ := plainElem_bool_inv Tryz.underlying4 hv; exact ⟨c, rfl⟩) b w.heap.size n _ _ _ rfl hrg ?_ ?_)
      | go_in)
    · intro hc0 hl0
      have hperm := hC.perm hown law3 Tryz.underlying3 hl0
      rcases hrow.2 with ⟨_, hnil⟩ | ⟨g, cap, cur, rfl, hbase, hb, h1, h2, h3, h4⟩
      · exfalso
        have : ss = [] := List.length_eq_zero_iff.1 hnil
        subst this
        exact hne hperm.nil_eq.symm
      have hH : Holds encZ wr g 0 ss.toArray := holds_of_block_i hb (by simpa using h4)
      have hgl : g < wr.heap.size := (Array.getElem?_eq_some_iff.1 hb).1
      have hc : Calls Tryz.prog 39 _ _ _ := Any.sort_Ints Tryz.lays191 g 0 cap ss wr hH hgl (by unfold maxLen at *; omega)
      go_wp2_with (go_at_call 39; refine hc.mono ?_; rintro e w' ⟨rfl, nn, os, rfl⟩)
      go_ret
      exact ⟨_, ss, rfl, hperm, ownsRow_sorted_i (by simp) hbase hb h1 h2 h3, hnx.grown (grownBy_sorted_i _) hnx.size (fun j hj => by cases hj; exact hbase)⟩
    · intro x
      refine ⟨?_, ?_⟩
      · intro kl yd yp w2 cnt2 hkey hlk hv hat hrg2 hlt hg2 hs2 hen
        obtain ⟨x', ex, rfl, _⟩ := Maps.keyOf_i64 Tryz.underlying3 hkey
        obtain rfl : x = x' := encZ_inj ex
        have hrow2 := hrow.kept hg2 (Or.inr (row_ne_iter hrow hrg).symm)
        clear hs2
        go_wp2_with (first
          | (at_builtin; refine wpList_append_own _ rfl _ _ 22 rfl w.heap.size 3 i0 (.int .i64 0) 1 8 Tryz.underlying22 hi hz0 hz1 hz2 rfl (by decide) _ _ _ rfl (hrow2.alloc _) ⟨w2.heap.size, 0, none⟩ 1 1 [encZ x] rfl rfl (cell_one_new _ _ _) (by simp [Value.oneCell', encZ]) (by unfold maxLen at *; omega) (by omega) (by have := hnx.size; have := hg2.size; simp; omega) ?_; intro v' w3 hown' hg3 hnil3; go_frame)
          | go_in)
        have hrg3 := (hrg2.alloc _).kept hg3 (row_ne_low hrow2 hbl) (row_ne_iter hrow2 hrg2)
        go_roundw
        case rel =>
          refine ⟨_, cnt2, ss ++ [x], hrg3, by simp; omega, by simpa using hown', hC.step hlk hat, ?_⟩
          exact ((hnx.grown hg2 hnx.size (fun j hj => by cases hj; exact Nat.le_refl _)).alloc (by have := hnx.size; have := hg2.size; omega) _).grown hg3 (by have := hnx.size; have := hg2.size; simp; omega) (fun j hj => (hrow2.lt j hj).1)
        case measure => rw [hrg3.left_eq, hrg.left_eq]; exact hlt
      · intro kl yd yp w2 cnt2 hkey hlk hv hat hrg2 hlt hg2 hs2 hen
        obtain ⟨x', ex, rfl, _⟩ := Maps.keyOf_i64 Tryz.underlying3 hkey
        obtain rfl : x = x' := encZ_inj ex
        have hrow2 := hrow.kept hg2 (Or.inr (row_ne_iter hrow hrg).symm)
        clear hs2
        go_wp2_with (first
          | (at_builtin; refine wpList_append_own _ rfl _ _ 22 rfl w.heap.size 3 i0 (.int .i64 0) 1 8 Tryz.underlying22 hi hz0 hz1 hz2 rfl (by decide) _ _ _ rfl (hrow2.alloc _) ⟨w2.heap.size, 0, none⟩ 1 1 [encZ x] rfl rfl (cell_one_new _ _ _) (by simp [Value.oneCell', encZ]) (by unfold maxLen at *; omega) (by omega) (by have := hnx.size; have := hg2.size; simp; omega) ?_; intro v' w3 hown' hg3 hnil3; go_frame)
          | go_in)
        have hrg3 := (hrg2.alloc _).kept hg3 (row_ne_low hrow2 hbl) (row_ne_iter hrow2 hrg2)
        go_roundw
        case rel =>
          refine ⟨_, cnt2, ss ++ [x], hrg3, by simp; omega, by simpa using hown', hC.step hlk hat, ?_⟩
          exact ((hnx.grown hg2 hnx.size (fun j hj => by cases hj; exact Nat.le_refl _)).alloc (by have := hnx.size; have := hg2.size; omega) _).grown hg3 (by have := hnx.size; have := hg2.size; simp; omega) (fun j hj => (hrow2.lt j hj).1)
        case measure => rw [hrg3.left_eq, hrg.left_eq]; exact hlt
end Go.X
