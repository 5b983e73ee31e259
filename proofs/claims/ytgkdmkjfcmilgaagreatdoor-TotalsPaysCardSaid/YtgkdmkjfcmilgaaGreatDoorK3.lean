/- The stand-in is right. -/
import Derived.Test.YtgkdmkjfcmilgaaGreatDoorK2
set_option linter.unusedVariables false
set_option linter.unusedSimpArgs false
namespace Go.X
open Go.Proofs Go.RowKit Go.Maps Go.WideElems Go.WideShapes
theorem Below.fr {w w' : World} (h : RowKit.Below w.heap.size w w') (B : Nat → Nat → Prop) : Fr B w w' := by
  refine ⟨h.os, h.tape, h.output, h.size, fun b o hb _ => h.cell (p := ⟨b, o, none⟩) hb, fun b o hb => h.frozen (p := ⟨b, o, none⟩) hb, fun b hb _ => h.block b hb, fun b => ?_⟩
  by_cases hb : b < w.heap.size
  · unfold bsz; rw [h.block b hb]; exact Nat.le_refl _
  · have : bsz w b = 0 := by unfold bsz; rw [Array.getElem?_eq_none (by omega)]
    omega
theorem sortedK_some {k : List Int} {h : T Blk} {nx : Nat} {r : Ans} (hr : sortedK k h nx = .ok r) :
    k ≠ [] ∧ k.length ≤ 1001 ∧ ∃ c, (∀ j, c.get j = (k[j]?).map fun n => V.int .i64 n) ∧ r = ⟨.slc nx 0 k.length 1 none, T.set h nx (.cells k.length c), nx + 1, []⟩ := by
  cases k with
  | nil => cases hr
  | cons n l =>
    unfold sortedK at hr
    simp only at hr
    cases hc : ofL (intsV (n :: l)) .e 0 with
    | none => rw [hc] at hr; cases hr
    | some c =>
      rw [hc] at hr
      simp only [num_eq, ib_eq, nble, T.setK_eq] at hr
      split at hr
      · rename_i hl
        cases hr
        refine ⟨by simp, by simp only [decide_eq_true_eq] at hl; simp; omega, c, fun j => ?_, rfl⟩
        obtain ⟨_, h2⟩ := ofL_some hc
        rw [h2 j, intsV_len, Nat.sub_zero, intsV_get, T.get_e]
        split
        · rfl
        · rename_i hj
          rw [List.getElem?_eq_none (by omega)]; rfl
      · cases hr
theorem sortedR_ok {args : List V} {h : T Blk} {nx : Nat} {r : Ans} (hr : sortedR args h nx = .ok r) : (∃ F c, Tryz.prog.funcs[24]? = some F ∧ F.body = some c) ∧ (Dom h nx → CallPure h nx r ∧ CallSem Tryz.prog 8 24 args h nx r) := by
  refine ⟨⟨Tryz.f24, _, Tryz.func24, rfl⟩, fun hdom => ?_⟩
  unfold sortedR at hr
  split at hr
  · rename_i b
    split at hr
    · rename_i es ck hb
      split at hr
      · rename_i ks hks
        obtain ⟨hne, hlen, c, hc, rfl⟩ := sortedK_some hr
        have hget : ∀ k, k.1 ≠ nx → cof (T.set h nx (.cells ks.length c)).get k = cof h.get k := fun k hk => by simp only [cof, T.get_set, Ne.symm hk, if_false]
        have hnew : ∀ j, cof (T.set h nx (.cells ks.length c)).get (nx, j) = (ks[j]?).map fun n => .val (.int .i64 n) := fun j => by
          simp only [cof, T.get_set, if_true, hc]; cases ks[j]? <;> rfl
        refine ⟨⟨Nat.le_succ _, fun k x hx => ?_, fun k hk => ?_, by simp⟩, ?_⟩
        · by_cases e : k.1 = nx
          · simp only; omega
          · rw [hget k e] at hx
            have := hdom k x hx; simp only; omega
        · refine hget k fun e => hk (Or.inl ⟨by omega, by simp only; omega⟩)
        · intro μ A w xs hx hh hinj hG hfr
          match xs, hx with
          | [x], hx =>
            simp only [VRs, VR, and_true] at hx
            obtain ⟨hA, rfl⟩ := hx
            obtain ⟨_, _, ms, hms, hM⟩ := hh (b, 0) (.mp es ck) (by simp [cof, hb])
            obtain ⟨i1, i2, i3, i4, i5, i6⟩ := keysM_some hks hM
            have hml : ms.size = ks.length := by have := i5.length_eq; simpa using this
            have hrd : ∀ x ∈ ms.toList, ∃ d, rd (H := Unit) Tryz.prog 3 (plainElem Tryz.prog 4) x = some (.int .i64 (RowKit.intOf x.key), d) := by
              intro x hx
              obtain ⟨n, b', q1, q2, q3, _⟩ := i3 x hx
              unfold rd
              rw [q1, q2, keyOf_int_mk Tryz.underlying3 q3]
              exact ⟨.lit (.bool b'), by simp [plainElem_bool Tryz.underlying4, RowKit.intOf]⟩
            have hnodk : (ms.toList.map (·.key)).Nodup := by
              have h1 : (ms.toList.map fun x => RowKit.intOf x.key).Nodup := i5.nodup_iff.2 i2
              rw [List.nodup_iff_pairwise_ne, List.pairwise_map] at h1 ⊢
              exact h1.imp fun {x y} hne e => hne (by rw [e])
            have hown : w.ownsMap Tryz.prog 3 (plainElem Tryz.prog 4) (μ b).1 ms.size (DataW.map (H := Unit) ((ms.toList.map (rg Tryz.prog 3 (plainElem Tryz.prog 4))).foldr DataW.insert [])) :=
              ⟨ms, ck, hms, ⟨by unfold maxLen; omega, ⟨fun x hx => by obtain ⟨_, _, _, _, _, _, q⟩ := i3 x hx; exact q, i4, hnodk⟩, fun x hx => let ⟨d, hd⟩ := hrd x hx; ⟨_, hd⟩⟩, Nat.le_refl _, rfl⟩
            have hkeys : (intKeys (DataW.map (H := Unit) ((ms.toList.map (rg Tryz.prog 3 (plainElem Tryz.prog 4))).foldr DataW.insert []))).Perm ks := by
              refine (List.Perm.map _ (sorted_perm _)).trans ?_
              rw [List.map_map]
              have : ms.toList.map ((fun p : Lit × DataW Unit => Go.intOf p.1) ∘ rg Tryz.prog 3 (plainElem Tryz.prog 4)) = ms.toList.map fun x => RowKit.intOf x.key := by
                refine List.map_congr_left fun x hx => ?_
                obtain ⟨d, hd⟩ := hrd x hx
                simp only [Function.comp, rg, hd, Option.getD_some, Go.intOf]
              rw [this]; exact i5
            have hsz : Maps.size (DataW.map (H := Unit) ((ms.toList.map (rg Tryz.prog 3 (plainElem Tryz.prog 4))).foldr DataW.insert [])) = ms.size := by
              rw [size_eq, length_sorted]; simp
            refine (sorted_any (μ b).1 ms.size _ w hown (by rw [hsz]; unfold maxLen; omega) (by rw [hsz]; omega) (fun e => by rw [e] at hkeys; exact hne hkeys.nil_eq.symm)).mono ?_
            rintro e w' ⟨v, ss, rfl, hp, hrow, hbel⟩
            have hsort : ss.mergeSort leI = ks := by
              have hperm := hp.trans hkeys
              refine List.Perm.eq_of_pairwise (le := fun a b => a ≤ b) (fun a b _ _ h1 h2 => Int.le_antisymm h1 h2) ?_ i1 ((List.mergeSort_perm ss leI).trans hperm)
              have := List.pairwise_mergeSort (le := leI) (fun a b c h1 h2 => by simp only [leI, decide_eq_true_eq] at *; exact Int.le_trans h1 h2) (fun a b => by simp only [leI, Bool.or_eq_true, decide_eq_true_eq]; exact Int.le_total a b) ss
              exact this.imp fun h => by simpa [leI] using h
            have hsl : ss.length = ks.length := (hp.trans hkeys).length_eq
            rw [hsort, hsl] at hrow
            rcases hrow.2 with ⟨_, h0⟩ | ⟨g, cap, cur, rfl, hg, hcell, hn, hcap, hcs, htk⟩
            · exact absurd (List.length_eq_zero_iff.1 h0) hne
            have hAnx : ¬ A nx := hfr nx (Nat.le_refl _) (Nat.lt_succ_self _)
            have hle : Le μ (put μ nx (g, 0)) A (fun id => A id ∨ (nx ≤ id ∧ id < nx + 1)) w w' :=
              ⟨fun _ h => Or.inl h, fun i hi => put_old _ _ fun e => hAnx (e ▸ hi), (Below.fr hbel fun _ _ => True).bs⟩
            have hkey : ∀ k : K, callKey nx ⟨.slc nx 0 ks.length 1 none, T.set h nx (.cells ks.length c), nx + 1, []⟩ k → k.1 = nx := by
              rintro k (⟨q1, q2⟩ | q)
              · simp only at q2; omega
              · simp at q
            have hcur : ∀ (j : Nat) (n : Int), ks[j]? = some n → cur[j]? = some (Value.int .i64 n) := by
              intro j n hj
              have hjl : j < ks.length := (List.getElem?_eq_some_iff.1 hj).1
              have h1 := congrArg (fun l => l[j]?) htk
              simp only [Nat.mul_one, List.getElem?_take_of_lt hjl, List.getElem?_map, hj, Option.map_some] at h1
              rw [← Array.getElem?_toList]; exact h1
            refine ⟨_, put μ nx (g, 0), rfl, hle, ?_, fun k x hk hx => ?_, fun k k' x x' h1 h2 _ _ hn => absurd ((hkey k h1).trans (hkey k' h2).symm) hn, fun k x hk _ _ => Or.inl (by rw [hkey k hk, put_new]; exact hg), Below.fr hbel _⟩
            · simp only [VR, put_new]
              refine ⟨Or.inr ⟨Nat.le_refl _, Nat.lt_succ_self _⟩, cap, rfl, hn, (fun c hc => by cases hc), ?_⟩
              have : bsz w' g = cur.size := by unfold bsz; rw [hcell]
              rw [this, hcs]; omega
            · obtain ⟨k1, k2⟩ := k
              have := hkey _ hk
              simp only at this
              subst this
              rw [hnew k2] at hx
              obtain ⟨n, h1, rfl⟩ := Option.map_eq_some_iff.1 hx
              refine ⟨Or.inr ⟨Nat.le_refl _, Nat.lt_succ_self _⟩, rfl, fun o => ?_, Value.int .i64 n, ?_, rfl⟩
              · simp [World.frozen?, put_new, hcell]
              · simp only [at_, put_new, Nat.zero_add, World.cell?, hcell]
                simp [hcur k2 n h1]
          | [], hx => exact hx.elim
          | _ :: _ :: _, hx => simp only [VRs] at hx; exact hx.2.elim
      · cases hr
    · cases hr
  · cases hr
theorem overS_ok (c : CallT) (hc : CallOK Tryz.prog 8 c) : CallOK Tryz.prog 8 (overS c) := by
  intro g args h nx r hr
  unfold overS at hr
  split at hr
  · exact hc g args h nx r hr
  · rename_i hg
    obtain rfl : g = 24 := by rw [nbeq] at hg; simpa using hg
    exact sortedR_ok hr
end Go.X
