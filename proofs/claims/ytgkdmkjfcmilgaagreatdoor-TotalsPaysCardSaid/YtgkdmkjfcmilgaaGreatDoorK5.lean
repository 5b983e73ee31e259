/- What Contract(0), Check and known() answer. -/
import Derived.Test.YtgkdmkjfcmilgaaGreatDoorK1
import Derived.Test.YtgkdmkjfcmilgaaGreatDoorK3
import Derived.Test.YtgkdmkjfcmilgaaGreatDoorK4
set_option linter.unusedVariables false
set_option linter.unusedSimpArgs false
namespace Go.X
open Go.Proofs
theorem mixed : Tryz.prog.follows .mixedOrders = true := by kernel_rfl
theorem noCount : (Tryz.prog.funcs.toList.all fun F => !(F.name == "runtime.NumGoroutine")) = true := by kernel_rfl
theorem hbody (g : FuncId) (F : Func) (h : Tryz.prog.funcs[g]? = some F) : (F.name == "runtime.NumGoroutine") = false := by
  have := List.all_eq_true.1 noCount F (by rw [Array.mem_toList_iff]; exact Array.mem_of_getElem? h)
  simpa using this
theorem ex0_ok : CallOK Tryz.prog 8 ex0 := exec_ok mixed (fun _ h => h) hbody 100000
theorem exS_ok : CallOK Tryz.prog 8 exS := exec_ok mixed overS_ok hbody 100000
theorem isZero_some {r : R Ans} (h : isZero r = true) : ∃ hp nx, r = .ok ⟨.int .i64 0, hp, nx, []⟩ := by
  unfold isZero at h
  split at h
  · exact ⟨_, _, rfl⟩
  · cases h
theorem isTrue_some {r : R Ans} (h : isTrue r = true) : ∃ hp nx, r = .ok ⟨.bool true, hp, nx, []⟩ := by
  unfold isTrue at h
  split at h
  · exact ⟨_, _, rfl⟩
  · cases h
theorem VRs.cons {μ : Nat → Nat × Nat} {A : Nat → Prop} {w : World} {v : V} {l : List V} {xs : List Value} (h : VRs μ A w (v :: l) xs) : ∃ x ys, xs = x :: ys ∧ VR μ A w v x ∧ VRs μ A w l ys := by
  cases xs with
  | nil => exact h.elim
  | cons x ys => simp only [VRs] at h; exact ⟨x, ys, rfl, h.1, h.2⟩
theorem VRs.nil {μ : Nat → Nat × Nat} {A : Nat → Prop} {w : World} {xs : List Value} (h : VRs μ A w [] xs) : xs = [] := by
  cases xs with
  | nil => rfl
  | cons x ys => exact h.elim
theorem isSlc_slice {μ : Nat → Nat × Nat} {A : Nat → Prop} {w : World} {v : V} {x : Value} (h : isSlc v = true) (hv : VR μ A w v x) : ∃ p n k, x = .slice p n k := by
  cases v <;> simp only [isSlc, Bool.false_eq_true] at h
  · obtain ⟨_, k, rfl, _⟩ := hv; exact ⟨_, _, _, rfl⟩
  · obtain ⟨a, k, rfl⟩ := hv; exact ⟨_, _, _, rfl⟩
  · cases hv; exact ⟨_, _, _, rfl⟩
/-- Such a value is a contract. -/
def IsC (v : Value) : Prop := ∃ (a b c d e f g n : Int) (p1 p2 p3 p4 p5 p6 : Option Addr) (n1 n2 n3 n4 n5 n6 k1 k2 k3 k4 k5 k6 : Nat),
  v = .agg #[.int .i64 a, .int .i64 b, .int .i64 c, .int .i64 d, .int .i64 e, .int .i64 f, .int .i64 g, .slice p1 n1 k1, .slice p2 n2 k2, .slice p3 n3 k3, .slice p4 n4 k4, .slice p5 n5 k5, .slice p6 n6 k6, .int .i64 n]
/-- Contract(0): a contract, and Check says of it that it is well. -/
theorem c11 (w : World) : Calls Tryz.prog 11 #[.int .i64 0] w fun e w' => ∃ v, IsC v ∧ e = .returned v ∧ RowKit.Below w.heap.size w w' ∧
    Calls Tryz.prog 13 #[v] w' fun e w'' => e = .returned (.int .i64 0) ∧ RowKit.Below w'.heap.size w' w'' := by
  have h := chk11_true
  unfold chk11 at h
  split at h
  · rename_i a b c d e f g h' i j k l m n hp nx heq
    simp only [ib_eq] at h
    split at h
    · rename_i s1
      split at h
      · rename_i s2
        split at h
        · rename_i s3
          split at h
          · rename_i s4
            split at h
            · rename_i s5
              split at h
              · rename_i s6
                obtain ⟨hp2, nx2, h2⟩ := isZero_some h
                refine (ex0_ok.closed (xs := [.int .i64 0]) heq (μ := fun id => (id, 0)) (A := fun id => id < 8) (w := w) (by simp [VRs, VR]) (HR.empty 8 w)).mono ?_
                rintro e w' ⟨y, μ', A', rfl, hb, _, hy, hh⟩
                refine ⟨y, ?_, rfl, hb, ?_⟩
                · obtain ⟨cs, rfl, hcs⟩ := hy
                  obtain ⟨x0, r0, e0, v0, hcs⟩ := VRs.cons hcs
                  obtain ⟨x1, r1, rfl, v1, hcs⟩ := VRs.cons hcs
                  obtain ⟨x2, r2, rfl, v2, hcs⟩ := VRs.cons hcs
                  obtain ⟨x3, r3, rfl, v3, hcs⟩ := VRs.cons hcs
                  obtain ⟨x4, r4, rfl, v4, hcs⟩ := VRs.cons hcs
                  obtain ⟨x5, r5, rfl, v5, hcs⟩ := VRs.cons hcs
                  obtain ⟨x6, r6, rfl, v6, hcs⟩ := VRs.cons hcs
                  obtain ⟨x7, r7, rfl, v7, hcs⟩ := VRs.cons hcs
                  obtain ⟨x8, r8, rfl, v8, hcs⟩ := VRs.cons hcs
                  obtain ⟨x9, r9, rfl, v9, hcs⟩ := VRs.cons hcs
                  obtain ⟨x10, r10, rfl, v10, hcs⟩ := VRs.cons hcs
                  obtain ⟨x11, r11, rfl, v11, hcs⟩ := VRs.cons hcs
                  obtain ⟨x12, r12, rfl, v12, hcs⟩ := VRs.cons hcs
                  obtain ⟨x13, r13, rfl, v13, hcs⟩ := VRs.cons hcs
                  obtain rfl := VRs.nil hcs
                  obtain rfl : cs = #[x0, x1, x2, x3, x4, x5, x6, x7, x8, x9, x10, x11, x12, x13] := by rw [← Array.toList_inj]; exact e0
                  obtain ⟨p1, n1, k1, rfl⟩ := isSlc_slice s1 v7
                  obtain ⟨p2, n2, k2, rfl⟩ := isSlc_slice s2 v8
                  obtain ⟨p3, n3, k3, rfl⟩ := isSlc_slice s3 v9
                  obtain ⟨p4, n4, k4, rfl⟩ := isSlc_slice s4 v10
                  obtain ⟨p5, n5, k5, rfl⟩ := isSlc_slice s5 v11
                  obtain ⟨p6, n6, k6, rfl⟩ := isSlc_slice s6 v12
                  simp only [VR] at v0 v1 v2 v3 v4 v5 v6 v13
                  subst v0 v1 v2 v3 v4 v5 v6 v13
                  exact ⟨a, b, c, d, e, f, g, n, p1, p2, p3, p4, p5, p6, n1, n2, n3, n4, n5, n6, k1, k2, k3, k4, k5, k6, rfl⟩
                · refine (ex0_ok.closed (xs := [y]) h2 ?_ hh).mono ?_
                  · simp only [VRs, and_true]; exact hy
                  rintro e w'' ⟨y, _, _, rfl, hb', _, hy, _⟩
                  exact ⟨by rw [show y = .int .i64 0 from hy], hb'⟩
              · cases h
            · cases h
          · cases h
        · cases h
      · cases h
    · cases h
  · cases h
/-- The names that are not to be used, as they lie. -/
def Names (w : World) : Prop := ∃ cs t, w.heap[0]? = some (.cells cs t (0, 0)) ∧ ∀ (j : Nat) (s : List Nat), namesR[j]? = some s → ∃ b : ByteArray, cs[j]? = some (.string b) ∧ b.data.toList.map UInt8.toNat = s
theorem ofL_names : ∃ c, hR = T.set .e 0 (.cells 13 c) ∧ ∀ j, c.get j = (namesR[j]?).map V.str := by
  unfold hR
  cases hc : ofL (namesR.map .str) .e 0 with
  | none => have : (ofL (namesR.map .str) .e 0).isSome = true := by decide +kernel
            rw [hc] at this; cases this
  | some c =>
    refine ⟨c, rfl, fun j => ?_⟩
    obtain ⟨_, h2⟩ := ofL_some hc
    rw [h2 j, Nat.sub_zero, T.get_e, List.getElem?_map]
    split
    · rfl
    · rename_i hj
      rw [List.getElem?_eq_none (by simp at hj ⊢; omega)]; rfl
theorem names_HR {w : World} (h : Names w) : HR 8 (fun id => (id, 0)) (fun id => id < 8) w hR 8 := by
  obtain ⟨cs, t, h0, hcs⟩ := h
  obtain ⟨c, hR', hc⟩ := ofL_names
  have hk : ∀ k x, cof hR.get k = some x → k.1 = 0 ∧ ∃ s, namesR[k.2]? = some s ∧ x = .val (.str s) := by
    intro k x hx
    rw [hR'] at hx
    simp only [cof, T.get_set] at hx
    by_cases e : 0 = k.1
    · rw [if_pos e] at hx
      simp only [hc, Option.map_map] at hx
      obtain ⟨s, q1, rfl⟩ := Option.map_eq_some_iff.1 hx
      exact ⟨e.symm, s, q1, rfl⟩
    · rw [if_neg e, T.get_e] at hx; cases hx
  refine ⟨fun k x hx => by have := (hk k x hx).1; omega, fun k x hx => ?_, fun k k' x x' hx hx' hn => absurd ((hk k x hx).1.trans (hk k' x' hx').1.symm) hn, fun g hg => ⟨hg, rfl⟩, fun id h1 h2 => by omega⟩
  obtain ⟨q1, s, q2, rfl⟩ := hk k x hx
  obtain ⟨b, q3, q4⟩ := hcs k.2 s q2
  refine ⟨by omega, rfl, fun o => ?_, .string b, ?_, b, rfl, q4⟩
  · simp [World.frozen?, q1, h0]
  · simp [World.cell?, at_, q1, h0, q3]
/-- known() says yes. -/
theorem c10 {w : World} (h : Names w) : Calls Tryz.prog 10 #[] w fun e w' => e = .returned (.bool true) ∧ RowKit.Below w.heap.size w w' := by
  obtain ⟨hp, nx, h2⟩ := isTrue_some known_true
  refine (exS_ok.closed (xs := []) h2 (by simp [VRs]) (names_HR h)).mono ?_
  rintro e w' ⟨y, _, _, rfl, hb, _, hy, _⟩
  exact ⟨by rw [show y = .bool true from hy], hb⟩
theorem Names.below {w w' : World} (h : Names w) (hb : RowKit.Below w.heap.size w w') : Names w' := by
  obtain ⟨cs, t, h0, hcs⟩ := h
  have hlt : 0 < w.heap.size := (Array.getElem?_eq_some_iff.1 h0).1
  exact ⟨cs, t, by rw [hb.block 0 hlt]; exact h0, hcs⟩
end Go.X
