/- What the executor says of one operation is what the model does: append, whole. -/
import Derived.Test.YtgkdmkjfcmilgaaGreatDoorXp
set_option linter.unusedVariables false
set_option linter.unusedSimpArgs false
namespace Go.X
section
variable {P : Program} {f : Operand → Option V} {acc : Nat → Option Blk} {nx : Nat} {r : PR}
theorem num_fun {β : Type} (m : Nat) (g : Nat → β) : num m g = g m := num_eq m g
/-- The slice moved into a block of its own, where its old row had room. -/
theorem post_move {μ : Nat → Nat × Nat} {A : Nat → Prop} {w w' : World} {b o n k m kc lo : Nat} {bn : Nat} {c cN : T V} {old new : List V} {news : List Value} {j0 : Nat} {u0 : V}
    (hb : acc b = some (.cells bn c)) (hlt : b < nx) (hA : A b) (hfr : ¬ A nx) (hj0 : c.get j0 = some u0) (hold : old.length = n * k) (holdc : ∀ j v, old[j]? = some v → CR μ A w (b, o + j) (.val v))
    (hnew : VRs μ A w new news) (hones : ∀ v ∈ new, v.one = true) (hs : Stored w w' (μ b).1 lo news.length) (hlo : lo = (μ b).2 + o + n * k) (hcells : ∀ j x, news[j]? = some x → w'.cell? ⟨(μ b).1, lo + j, none⟩ = some x)
    (hfz : ∀ o, w.frozen? ⟨(μ b).1, o, none⟩ = false) (hcN : ∀ j, cN.get j = (old ++ new)[j]?) (hm : n + m ≤ kc) (hbs : (μ b).2 + o + kc * k ≤ bsz w (μ b).1) {q : Nat} :
    Post (cof acc) (upKey nx (nx + 1) [(b, none, .dead), (nx, none, .cells q cN)]) (upVal [(b, none, .dead), (nx, none, .cells q cN)]) (.slc nx 0 (n + m) k none) (fun id => A id ∨ (nx ≤ id ∧ id < nx + 1)) A μ
      (Go.X.put μ nx ((μ b).1, (μ b).2 + o)) w w' (.slice (some ⟨(μ b).1, (μ b).2 + o, none⟩) (n + m) kc) := by
  have hle : Le μ (Go.X.put μ nx ((μ b).1, (μ b).2 + o)) A (fun id => A id ∨ (nx ≤ id ∧ id < nx + 1)) w w' :=
    ⟨fun _ => Or.inl, fun _ hi => put_old μ _ (fun e => hfr (e ▸ hi)), fun c => by rw [hs.bs]; exact Nat.le_refl _⟩
  have hval : ∀ k c, upVal [(b, none, .dead), (nx, none, .cells q cN)] k = some c → k.1 = nx ∧ ∃ u, c = .val u ∧ cN.get k.2 = some u := by
    intro k c h
    simp only [upVal, cof, upB] at h
    by_cases e : nx = k.1
    · simp only [e, if_true, Option.map_eq_some_iff] at h
      obtain ⟨u, h1, h2⟩ := h
      exact ⟨e.symm, u, h2.symm, h1⟩
    · by_cases e2 : b = k.1
      · simp [e, e2] at h
      · simp [e, e2] at h
  have hkb : ∀ j, upKey nx (nx + 1) [(b, none, .dead), (nx, none, .cells q cN)] (b, j) := fun j => Or.inr ⟨(b, none, .dead), by simp, hlt, rfl, fun r hr => by cases hr⟩
  have hcb : cof acc (b, j0) = some (.val u0) := by simp [cof, hb, hj0]
  refine ⟨hle, ⟨Or.inr (by omega), kc, by simp [put_new], hm, (fun c hc => by cases hc), ?_⟩, ?_, ?_, ?_, ?_⟩
  · rw [put_new, hs.bs]; simp only [Nat.add_zero]; exact hbs
  · intro kk cc _ h2
    obtain ⟨e, u, rfl, h3⟩ := hval kk cc h2
    obtain ⟨i, j⟩ := kk
    simp only at e h3; subst e
    refine ⟨Or.inr (by simp), ?_⟩
    rw [hcN] at h3
    by_cases hj : j < old.length
    · rw [List.getElem?_append_left hj] at h3
      obtain ⟨g1, g2, x, g3, g4⟩ := holdc j u h3
      refine ⟨g1, fun p => by rw [put_new, hs.froz]; exact g2 p, x, ?_, VR.up hle _ _ g4⟩
      simp only [at_, put_new]
      rw [hs.cell _ _ (by rintro ⟨_, q1, q2⟩; omega), Nat.add_assoc]; exact g3
    · rw [List.getElem?_append_right (by omega)] at h3
      obtain ⟨x, g3, g4⟩ := VRs.nth _ u hnew h3
      refine ⟨hones u (List.mem_of_getElem? h3), fun p => by rw [put_new, hs.froz]; exact hfz p, x, ?_, VR.up hle _ _ g4⟩
      simp only [at_, put_new]
      have := hcells _ x g3
      rw [show (μ b).2 + o + j = lo + (j - old.length) by omega]; exact this
  · intro k1 k2 c1 c2 _ _ h3 h4 hn
    exact absurd ((hval k1 c1 h3).1.trans (hval k2 c2 h4).1.symm) hn
  · intro k1 c1 _ h2 _
    obtain ⟨e, u, rfl, h3⟩ := hval k1 c1 h2
    right
    refine ⟨(b, j0), .val u0, hcb, fun j => ⟨hkb j, ?_⟩, by rw [e, put_new]⟩
    cases hx : upVal [(b, none, .dead), (nx, none, .cells q cN)] (b, j) with
    | none => rfl
    | some c => have := (hval _ c hx).1; simp only at this; omega
  · refine ⟨hs.os, hs.tape, hs.output, by rw [hs.size]; exact Nat.le_refl _, fun bb p _ hn => hs.cell bb p ?_, fun bb p _ => hs.froz bb p, fun bb _ hn => ?_, fun c => by rw [hs.bs]; exact Nat.le_refl _⟩
    · rintro ⟨e1, e2, e3⟩
      exact hn ⟨(b, p - (μ b).2), j0, hkb _, by rw [hcb]; simp, e1, by simp only; omega⟩
    · by_cases e : bb = (μ b).1
      · exact absurd ⟨(b, 0), j0, hkb _, by rw [hcb]; simp, e, Or.inl rfl⟩ (hn ((μ b).2 + 0))
      · exact hs.obj bb e
theorem pAppend_ok {c : Call} {s x : Operand} (hc1 : c.callee = .builtin .append) (hc2 : c.args.toList = [s, x]) (h : pAppend c.argTypes.toList s x P f acc nx = some r) : PrimOK P f acc nx (.call c) r := by
  obtain ⟨sv, h1, h2⟩ := ob_some.1 h
  obtain ⟨xv, h3, h4⟩ := ob_some.1 h2
  unfold appendP at h4
  split at h4
  case h_2 => cases h4
  case h_1 st xt hts =>
  obtain ⟨h5, h6⟩ := gd_some.1 h4
  rw [nbeq] at h5; simp only [decide_eq_true_eq] at h5; subst h5
  obtain ⟨e, h7, h8⟩ := ob_some.1 h6
  obtain ⟨k, h9, h10⟩ := ob_some.1 h8
  obtain ⟨z, h11, h12⟩ := ob_some.1 h10
  obtain ⟨bi, h13, h14⟩ := ob_some.1 h12
  obtain ⟨h15, h16⟩ := gd_some.1 h14
  obtain ⟨new, m, h17, h18⟩ := ob2_some.1 h16
  rw [nbeq, len_eq] at h15; simp only [Nat.add_zero, decide_eq_true_eq] at h15
  have hu := elemOf'_some h7
  obtain ⟨i, zv, hi, hz, hzz⟩ := zeroL_some h11
  obtain ⟨i', hi', hbi⟩ := bytesOf_some h13
  rw [hi] at hi'; cases hi'
  obtain ⟨i', hi', hsz⟩ := sz_some h9
  rw [hi] at hi'; cases hi'
  have hzk : zv.cells.size = k := by
    have := VRs.length (hzz (fun _ => (0, 0)) (fun _ => True) default)
    rw [← h15, this]; simp
  have hs_op : s ∈ (Op.call c).operands := by
    simp only [Op.operands, Call.operands, hc1]
    have : s ∈ c.args := by rw [← Array.mem_toList_iff, hc2]; simp
    simpa using this
  have hx_op : x ∈ (Op.call c).operands := by
    simp only [Op.operands, Call.operands, hc1]
    have : x ∈ c.args := by rw [← Array.mem_toList_iff, hc2]; simp
    simpa using this
  cases m with
  | zero =>
    obtain ⟨h19, h20⟩ := gd_some.1 h18
    cases h20
    refine PrimOK.of_pure fun μ A w ρ o ho hρ hacc => ?_
    have hsv := hρ s hs_op _ h1
    obtain ⟨base, cc, hxe, xs, _, hxl, hsrc⟩ := src_sound h17 (hρ x hx_op _ h3) hacc
    have hxs : xs = [] := List.eq_nil_of_length_eq_zero (by simpa using hxl)
    refine ⟨ρ s, ?_, hsv⟩
    rw [run_call_append ho hc1 hc2 hts, hxe]
    have hf : (Builtin.firstCells k 0 (.slice base 0 cc)).run P w = .ok #[] w := by
      rcases hsrc with ⟨rfl, _⟩ | ⟨a, rfl, _⟩
      · exact run_firstCells_none w k 0 0 cc
      · exact run_firstCells_some w k 0 a 0 cc [] (by simp) (fun j y h => by simp at h)
    cases sv <;> first | (cases h19; done) | skip
    · obtain ⟨_, kc, e1, e2, _⟩ := hsv
      rw [e1]
      simp [Builtin.append_, run_underlying' hu, run_sizeOf h9, Builtin.lenOf, e2, hf, storeCells]
    · have e1 : ρ s = .slice none 0 0 := hsv
      rw [e1]
      simp [Builtin.append_, run_underlying' hu, run_sizeOf h9, Builtin.lenOf, hf, storeCells]
  | succ p =>
    simp only [ib_eq] at h18
    split at h18
    · -- onto nil
      rename_i hnil
      have := isNils_true hnil; subst this
      obtain ⟨hmb, h18⟩ := gd_some.1 h18
      rw [nble] at hmb; simp only [decide_eq_true_eq] at hmb
      obtain ⟨h19, h20⟩ := gd_some.1 h18
      rw [nble] at h19; simp only [decide_eq_true_eq] at h19
      refine alloc_ok h20 fun μ A w ρ o ho hρ hacc => ?_
      have hsv : ρ s = .slice none 0 0 := hρ s hs_op _ h1
      obtain ⟨base, cc, hxe, xs, hxs, hxl, hsrc⟩ := src_sound h17 (hρ x hx_op _ h3) hacc
      rcases hsrc with ⟨_, hm⟩ | ⟨a, rfl, hcells⟩
      · cases hm
      have hb2 : (p + 1) * i.bytes ≤ 281474976710656 := by
        rw [hbi]
        exact Nat.le_trans (Nat.mul_le_mul_right _ (by omega)) h19
      have hrun := run_append_nil (P := P) w st o.type e i zv hu hi hz a (p + 1) cc xs (by rw [hsz]; exact hxl) hcells (by omega) (by omega) hb2
      have hge := grownCap_ge w (p + 1) 0 e
      refine ⟨.slice (some ⟨w.heap.size, 0, none⟩) (p + 1) (grownCap w (p + 1) 0 e), w.drew.alloc (.cells (xs.toArray ++ Builtin.zeroCells zv.cells (grownCap w (p + 1) 0 e - (p + 1))) e), xs.toArray ++ Builtin.zeroCells zv.cells (grownCap w (p + 1) 0 e - (p + 1)), e, ?_, Pushed.drewAlloc _ _, ⟨(Builtin.zeroCells zv.cells (grownCap w (p + 1) 0 e - (p + 1))).toList, xs, by simp, hxs⟩, ?_⟩
      · rw [run_call_append ho hc1 hc2 hts, hxe, hsv, hrun]; rfl
      · intro μ' A' q1 q2
        refine ⟨q2, grownCap w (p + 1) 0 e, by simp [q1], hge, (fun c hc => by cases hc), ?_⟩
        rw [q1, bsz_new (Pushed.drewAlloc w _)]
        simp only [Array.size_append, List.size_toArray, size_zeroCells, hxl, hzk]
        rw [← Nat.add_mul]
        exact Nat.le_of_eq (by rw [Nat.zero_add]; congr 1; omega)
    · obtain ⟨b, o', n, k', cap, rfl, h19⟩ := obS_some h18
      unfold appSlc at h19
      rw [num_fun] at h19
      obtain ⟨h20, h21⟩ := gd_some.1 h19
      obtain ⟨hmb, h21⟩ := gd_some.1 h21
      rw [nble] at hmb; simp only [decide_eq_true_eq, Nat.succ_eq_add_one] at hmb
      obtain ⟨h22, h23⟩ := gd_some.1 h21
      obtain ⟨bn, cc, h24, h25⟩ := ob2_some.1 h23
      rw [nbeq] at h20; simp only [decide_eq_true_eq] at h20; subst h20
      rw [nble] at h22; simp only [decide_eq_true_eq, Nat.succ_eq_add_one] at h22
      have hb := cellsOf_some h24
      have hby : (n + (p + 1)) * i.bytes ≤ 140737488355328 := by
        rw [hbi]
        have : ((n + (p + 1)) * 8) * bi ≤ ((n + (p + 1)) * 8 + 8000) * bi := Nat.mul_le_mul_right _ (by omega)
        have e2 : ((n + (p + 1)) * 8) * bi = 8 * ((n + (p + 1)) * bi) := by rw [Nat.mul_comm (n + (p + 1)) 8, Nat.mul_assoc]
        omega
      have h63 : n + (p + 1) ≤ 9223372036854775807 := by omega
      cases cap with
      | none =>
        simp only at h25
        obtain ⟨h26, h27⟩ := gd_some.1 h25
        obtain ⟨old, h28, h29⟩ := ob_some.1 h27
        obtain ⟨r', h30, h31⟩ := ob_some.1 h29
        obtain ⟨cN, rfl, h32, h33⟩ := newP_some h30
        cases h31
        obtain ⟨h34, h35⟩ := takeC_some h28
        obtain ⟨j0, u0, hj0⟩ := anyC_some h26
        refine ⟨by omega, fun e he => ?_, fun μ A w ρ o ho hρ hacc _ hfr => ?_⟩
        · simp only [List.mem_cons, List.not_mem_nil, or_false] at he
          rcases he with rfl | rfl
          · exact Or.inr ⟨⟨j0, by simp [cof, hb, hj0]⟩, fun r hr => by cases hr⟩
          · exact Or.inl ⟨rfl, rfl, rfl⟩
        · obtain ⟨hA, kc, hse, hkc, _, hbs⟩ := hρ s hs_op _ h1
          obtain ⟨base, cx, hxe, xs, hxs, hxl, hsrc⟩ := src_sound h17 (hρ x hx_op _ h3) hacc
          rcases hsrc with ⟨_, hm⟩ | ⟨a, rfl, hcells⟩
          · cases hm
          have hbc := hacc (b, j0) (.val u0) (by simp [cof, hb, hj0])
          have hlt : b < nx := hbc.2.1
          have hA' : ¬ A nx := hfr nx (Nat.le_refl _) (by omega)
          have holdc : ∀ j v, old[j]? = some v → CR μ A w (b, o' + j) (.val v) := fun j v hj => (hacc (b, o' + j) (.val v) (by simp [cof, hb, h35 j v hj])).2.2
          obtain ⟨olds, ho1, ho2⟩ := cells_of (l := old) (o := o') holdc
          have hol : olds.length = n * k := by rw [← VRs.length ho1]; exact h34
          have hones : ∀ v ∈ new, v.one = true := fun v hv => h32 v (by simp [hv])
          by_cases hroom : n + (p + 1) ≤ kc
          · have hlen : (p + 1) * k + (n * k) ≤ kc * k := by rw [← Nat.add_mul]; exact Nat.mul_le_mul_right _ (by omega)
            have hin : ∀ j, j < xs.length → (w.cell? ⟨(μ b).1, ((μ b).2 + o' + n * k) + j, none⟩).isSome = true := by
              intro j hj
              unfold bsz at hbs
              have hlt2 := hbc.2.2.lt
              obtain ⟨_, hfz, y, hcl, _⟩ := hbc.2.2
              simp only [at_, World.cell?] at hcl
              split at hcl
              · rename_i cs e' fr hbb
                rw [hbb] at hbs
                simp only at hbs
                simp only [World.cell?, hbb]
                simp
                omega
              · cases hcl
            obtain ⟨w', q1, q2, q3⟩ := storeCells_raw (P := P) (bb := (μ b).1) (xs := xs) (oo := (μ b).2 + o' + n * k) (o0 := (μ b).2 + o' + n * k) (i := 0) rfl (VRs.ones hxs hones) hin hbc.2.2.2.1
            refine ⟨_, w', _, Or.inl ?_, post_move hb hlt hA hA' hj0 h34 holdc hxs hones q2 rfl q3 hbc.2.2.2.1 h33 hroom hbs⟩
            rw [run_call_append ho hc1 hc2 hts, hxe, hse]
            have hf := run_firstCells_some (P := P) w k (p + 1) a (p + 1) cx xs hxl hcells
            simp [Builtin.append_, run_underlying' hu, run_sizeOf h9, Builtin.lenOf, hroom, hf, add_at', q1]
          · obtain ⟨g, w', cs, q1, q2, ⟨rest, q3⟩, q4, q5⟩ := grow_run (P := P) (ty := o.type) (kc := kc) (n := n) (m := p + 1) (c := cx) hu hi hz hsz hzk hol (fun j y hj => by rw [add_at', Nat.add_assoc]; exact ho2 j y hj) hxl hcells (by omega) hby h63
            have hp := post_kill (b := b) (post_new (acc := acc) (v := .slc nx 0 (n + (p + 1)) k none) (blk := .cells (old ++ new).length cN) q2 hA' (y := .slice (some ⟨w.heap.size, 0, none⟩) (n + (p + 1)) g)
              ⟨Or.inr (by omega), g, by simp [put_new], q5, (fun c hc => by cases hc), by rw [put_new, bsz_new q2, q4]; simp⟩
              (newRow_reads q2 hA' h32 h33 ⟨rest, olds ++ xs, q3, VRs.app ho1 hxs⟩)) hlt (by simp [upB]; omega)
            exact ⟨_, w', _, Or.inl (by rw [run_call_append ho hc1 hc2 hts, hxe, hse, q1]; rfl), hp⟩
      | some cp =>
        simp only [ib_eq] at h25
        split at h25
        · rename_i hle
          rw [nble] at hle; simp only [decide_eq_true_eq, Nat.succ_eq_add_one] at hle
          obtain ⟨hany, h25⟩ := gd_some.1 h25
          obtain ⟨j0, u0, hj0⟩ := anyC_some hany
          rw [num_fun] at h25
          obtain ⟨c', h26, h27⟩ := ob_some.1 h25
          rw [num_fun, len_eq] at h27
          cases h27
          obtain ⟨p1, p2, p3⟩ := putC_some h26
          simp only [Nat.add_zero]
          refine ⟨Nat.le_refl _, fun e' he => ?_, fun μ A w ρ o ho hρ hacc _ hfr => ?_⟩
          · simp only [List.mem_cons, List.not_mem_nil, or_false] at he
            subst he
            have hsome : ∀ j, o' + n * k ≤ j → j < o' + n * k + new.length → cof acc (b, j) ≠ none := fun j j1 j2 => by
              have := p2 j j1 j2
              simp only [cof, hb]
              cases e3 : cc.get j with
              | none => exact absurd e3 this
              | some u => simp
            refine Or.inr ⟨⟨j0, by simp [cof, hb, hj0]⟩, fun r hr => ?_⟩
            cases hr
            refine ⟨fun j j1 j2 => hsome j j1 (by simp only at j2; omega), fun j hj => ?_⟩
            simp only at hj
            simp only [cof, hb, p3 j]
            rw [if_neg (by omega)]
          · obtain ⟨hA, kc, hse, hkc, hcap, hbs⟩ := hρ s hs_op _ h1
            have := hcap cp rfl; subst this
            obtain ⟨base, cx, hxe, xs, hxs, hxl, hsrc⟩ := src_sound h17 (hρ x hx_op _ h3) hacc
            rcases hsrc with ⟨_, hm⟩ | ⟨a, rfl, hcells⟩
            · cases hm
            have hlt : b < nx := (hacc (b, j0) (.val u0) (by simp [cof, hb, hj0])).2.1
            have hc : ∀ j u, cc.get j = some u → CR μ A w (b, j) (.val u) := fun j u hj => (hacc (b, j) (.val u) (by simp [cof, hb, hj])).2.2
            obtain ⟨w', q1, q2, q3⟩ := storeCells_sound (P := P) (o0 := o' + n * k) (i := 0) hxs h26 rfl hc
            refine ⟨.slice (some ⟨(μ b).1, (μ b).2 + o', none⟩) (n + (p + 1)) kc, w', μ, Or.inl ?_, post_store hb hlt hA (by rw [Nat.add_sub_cancel_left]; exact q2) (by omega) (fun j j1 j2 => p2 j j1 (by omega)) q3
              (show VR μ A w' (.slc b o' (n + (p + 1)) k (some kc)) (.slice (some ⟨(μ b).1, (μ b).2 + o', none⟩) (n + (p + 1)) kc) from ⟨hA, kc, rfl, hle, (fun c hc => by cases hc; rfl), by rw [q2.bs]; exact hbs⟩)⟩
            rw [run_call_append ho hc1 hc2 hts, hxe, hse]
            have hf := run_firstCells_some (P := P) w k (p + 1) a (p + 1) cx xs hxl hcells
            simp only [← Nat.add_assoc] at q1
            simp [Builtin.append_, run_underlying' hu, run_sizeOf h9, Builtin.lenOf, hle, hf, add_at', q1]
        · rename_i hle
          rw [nble] at hle; simp only [decide_eq_true_eq, Nat.succ_eq_add_one] at hle
          obtain ⟨old, h28, h29⟩ := ob_some.1 h25
          obtain ⟨h34, h35⟩ := takeC_some h28
          refine alloc_ok h29 fun μ A w ρ o ho hρ hacc => ?_
          obtain ⟨hA, kc, hse, hkc, hcap, hbs⟩ := hρ s hs_op _ h1
          have := hcap cp rfl; subst this
          obtain ⟨base, cx, hxe, xs, hxs, hxl, hsrc⟩ := src_sound h17 (hρ x hx_op _ h3) hacc
          rcases hsrc with ⟨_, hm⟩ | ⟨a, rfl, hcells⟩
          · cases hm
          have holdc : ∀ j v, old[j]? = some v → CR μ A w (b, o' + j) (.val v) := fun j v hj => (hacc (b, o' + j) (.val v) (by simp [cof, hb, h35 j v hj])).2.2
          obtain ⟨olds, ho1, ho2⟩ := cells_of (l := old) (o := o') holdc
          have hol : olds.length = n * k := by rw [← VRs.length ho1]; exact h34
          obtain ⟨g, w', cs, q1, q2, ⟨rest, q3⟩, q4, q5⟩ := grow_run (P := P) (ty := o.type) (kc := kc) (n := n) (m := p + 1) (c := cx) hu hi hz hsz hzk hol (fun j y hj => by rw [add_at', Nat.add_assoc]; exact ho2 j y hj) hxl hcells (by omega) hby h63
          refine ⟨_, w', cs, e, by rw [run_call_append ho hc1 hc2 hts, hxe, hse, q1]; rfl, q2, ⟨rest, olds ++ xs, q3, VRs.app ho1 hxs⟩, ?_⟩
          intro μ' A' r1 r2
          exact ⟨r2, g, by simp [r1], q5, (fun c hc => by cases hc), by rw [r1, bsz_new q2, q4]; simp⟩
end
end Go.X
