/- What the executor says of one operation is what the model does: slices of slices, lengths, builds. -/
import Derived.Test.YtgkdmkjfcmilgaaGreatDoorXl
set_option linter.unusedVariables false
set_option linter.unusedSimpArgs false
namespace Go.X
section
variable {P : Program} {f : Operand → Option V} {acc : Nat → Option Blk} {nx : Nat} {r : PR} {μ : Nat → Nat × Nat} {A : Nat → Prop} {w : World}
theorem bnd_some {x : Option Operand} {dft m i : Nat} (h : bnd f x dft m = some i) : (x = none ∧ i = dft) ∨ ∃ op k, x = some op ∧ f op = some (.int k i) ∧ i ≤ m := by
  cases x with
  | none => exact Or.inl ⟨rfl, (Option.some.inj h).symm⟩
  | some op =>
    obtain ⟨v, h1, h2⟩ := ob_some.1 h
    obtain ⟨j, h3, h4⟩ := ob_some.1 h2
    obtain ⟨h5, h6⟩ := gd_some.1 h4
    cases h6
    obtain ⟨k, rfl⟩ := asNat_some h3
    exact Or.inr ⟨op, k, rfl, h1, by rw [nble] at h5; simpa using h5⟩
/-- The bounds as the model finds them. -/
theorem sliceBounds_run {b : Bool} {len cap h l : Nat} {lo hi : Option Operand} {ρ : Operand → Value} (w1 : World)
    (h1 : (hi = none ∧ h = len) ∨ ∃ op k, hi = some op ∧ ρ op = .int k h ∧ h ≤ cap) (h2 : (lo = none ∧ l = 0) ∨ ∃ op k, lo = some op ∧ ρ op = .int k l ∧ l ≤ h) :
    (Instr.sliceBounds b len cap (lo.map ρ) (hi.map ρ) none).run P w1 = .ok (l, h, cap) w1 := by
  rcases h1 with ⟨rfl, rfl⟩ | ⟨op, k, rfl, e1, e2⟩ <;> rcases h2 with ⟨rfl, rfl⟩ | ⟨op', k', rfl, e3, e4⟩
  · simp [Instr.sliceBounds]
  · simp [Instr.sliceBounds, e3, run_sliceBound (P := P) w1 k' (l : Int) h _ (by omega) (by omega)]
  · simp [Instr.sliceBounds, e1, run_sliceBound (P := P) w1 k (h : Int) cap _ (by omega) (by omega)]
  · simp [Instr.sliceBounds, e1, e3, run_sliceBound (P := P) w1 k (h : Int) cap _ (by omega) (by omega), run_sliceBound (P := P) w1 k' (l : Int) h _ (by omega) (by omega)]
theorem sliceBounds_run3 {b : Bool} {len cap m h l : Nat} {lo : Option Operand} {hi mx : Operand} {ρ : Operand → Value} {km kh : IntKind} (w1 : World) (hm : ρ mx = .int km m) (hm' : m ≤ cap)
    (h1 : ρ hi = .int kh h) (h1' : h ≤ m) (h2 : (lo = none ∧ l = 0) ∨ ∃ op k, lo = some op ∧ ρ op = .int k l ∧ l ≤ h) :
    (Instr.sliceBounds b len cap (lo.map ρ) (some (ρ hi)) (some (ρ mx))).run P w1 = .ok (l, h, m) w1 := by
  rcases h2 with ⟨rfl, rfl⟩ | ⟨op', k', rfl, e3, e4⟩
  · simp [Instr.sliceBounds, hm, h1, run_sliceBound (P := P) w1 km (m : Int) cap _ (by omega) (by omega), run_sliceBound (P := P) w1 kh (h : Int) m _ (by omega) (by omega)]
  · simp [Instr.sliceBounds, hm, h1, e3, run_sliceBound (P := P) w1 km (m : Int) cap _ (by omega) (by omega), run_sliceBound (P := P) w1 kh (h : Int) m _ (by omega) (by omega), run_sliceBound (P := P) w1 k' (l : Int) h _ (by omega) (by omega)]
/-- What is left of a slice. -/
theorem slcOf_VR {b o h l e : Nat} {cap : Option Nat} {v : V} (hv : slcOf b o h l e cap = some v) {c : Nat} (hlh : l ≤ h) (hhc : h ≤ c) (hcap : ∀ m, cap = some m → c = m) (ha : A b)
    (hs : (μ b).2 + o + c * e ≤ bsz w (μ b).1) :
    VR μ A w v (.slice (if c = l then some ⟨(μ b).1, (μ b).2 + o, none⟩ else (some (⟨(μ b).1, (μ b).2 + o, none⟩ : Addr)).map (·.add (l * e))) (h - l) (c - l)) := by
  have hsz : l ≤ c → (μ b).2 + (o + l * e) + (c - l) * e ≤ bsz w (μ b).1 := by
    intro hl
    have : l * e + (c - l) * e = c * e := by rw [← Nat.add_mul]; congr 1; omega
    omega
  have hemp : l = h → ∃ a, (if c = l then some (⟨(μ b).1, (μ b).2 + o, none⟩ : Addr) else (some (⟨(μ b).1, (μ b).2 + o, none⟩ : Addr)).map (·.add (l * e))) = some a := by
    intro _; split <;> exact ⟨_, rfl⟩
  cases cap with
  | none =>
    simp only [slcOf, ib_eq, num_eq, nbeq, decide_eq_true_eq] at hv
    split at hv
    · rename_i e1; subst e1; cases hv
      obtain ⟨a, ha'⟩ := hemp rfl
      rw [ha']; exact ⟨a, c - l, by simp⟩
    · rename_i e1; cases hv
      rw [if_neg (by omega)]
      exact ⟨ha, c - l, by simp [add_at', Nat.add_assoc], by omega, (fun m hm => absurd hm (by simp)), hsz (by omega)⟩
  | some m =>
    have hcm := hcap m rfl; subst hcm
    simp only [slcOf, ib_eq, num_eq, nbeq, decide_eq_true_eq] at hv
    split at hv
    · rename_i e1; subst e1; cases hv
      obtain ⟨a, ha'⟩ := hemp (by omega)
      rw [ha']; exact ⟨a, c - c, by simp; omega⟩
    · rename_i e1; cases hv
      rw [if_neg (by omega)]
      exact ⟨ha, c - l, by simp [add_at', Nat.add_assoc], by omega, (fun m hm => by cases hm; rfl), hsz (by omega)⟩
theorem bnd_val {ρ : Operand → Value} {x : Option Operand} {dft m i : Nat} (h : bnd f x dft m = some i) (hρ : ∀ op, x = some op → ∀ u, f op = some u → VR μ A w u (ρ op)) :
    (x = none ∧ i = dft) ∨ ∃ op k, x = some op ∧ ρ op = .int k i ∧ i ≤ m := by
  rcases bnd_some h with h | ⟨op, k, h1, h2, h3⟩
  · exact Or.inl h
  · exact Or.inr ⟨op, k, h1, hρ op h1 _ h2, h3⟩
theorem extract_list (s : ByteArray) (l h : Nat) : (s.extract l h).data.toList = (s.data.toList.take h).drop l := by
  rw [ByteArray.data_extract, Array.toList_extract, List.extract_eq_take_drop, List.drop_take]
theorem bnd_le {x : Option Operand} {dft m i : Nat} (h : bnd f x dft m = some i) (hd : dft ≤ m) : i ≤ m := by
  rcases bnd_some h with ⟨_, rfl⟩ | ⟨_, _, _, _, h⟩
  · exact hd
  · exact h
theorem pSlice_ok {t : TypeId} {x : Operand} {lo hi mx : Option Operand} (h : pSlice t x lo hi mx P f acc nx = some r) : PrimOK P f acc nx (.slice t x lo hi mx) r := by
  obtain ⟨xv, h1, h2⟩ := ob_some.1 h
  obtain ⟨u, h3, rfl⟩ := pv_some h2
  refine PrimOK.of_pure fun μ A w ρ o ho hρ hacc => ?_
  obtain ⟨dst, op, ty, pos, after, guard⟩ := o
  simp only at ho; subst ho
  have hx := hρ x (by simp [Op.operands]) _ h1
  have hlo : ∀ op, lo = some op → ∀ u, f op = some u → VR μ A w u (ρ op) := fun op e => hρ op (by simp [Op.operands, e])
  have hhi : ∀ op, hi = some op → ∀ u, f op = some u → VR μ A w u (ρ op) := fun op e => hρ op (by simp [Op.operands, e])
  cases mx with
  | some mxo =>
    have hmx : ∀ u, f mxo = some u → VR μ A w u (ρ mxo) := hρ mxo (by simp [Op.operands])
    obtain ⟨e, h4, h5⟩ := ob_some.1 h3
    obtain ⟨hio, h6, h7⟩ := ob_some.1 h5
    subst h6
    obtain ⟨b, o', n, es, cap, rfl, h8⟩ := obS_some h7
    obtain ⟨m0, h9, h10⟩ := ob_some.1 h8
    subst h9
    obtain ⟨k, h11, h12⟩ := ob_some.1 h10
    obtain ⟨h13, h14⟩ := gd_some.1 h12
    obtain ⟨m, h15, h16⟩ := ob_some.1 h14
    obtain ⟨hh, h17, h18⟩ := ob_some.1 h16
    obtain ⟨l, h19, h20⟩ := ob_some.1 h18
    rw [nbeq] at h13; simp only [decide_eq_true_eq] at h13; subst h13
    have hu := elemOf'_some h4
    obtain ⟨ha, c, hxe, hc1, hc2, hc3⟩ := hx
    have := hc2 m0 rfl; subst this
    rcases bnd_some h15 with ⟨q, _⟩ | ⟨op1, km, e1, e2, e3⟩
    · cases q
    cases e1
    rcases bnd_some h17 with ⟨q, _⟩ | ⟨op2, kh, e4, e5, e6⟩
    · cases q
    cases e4
    have hv := slcOf_VR (μ := μ) (A := A) (w := w) h20 (c := m) (bnd_le h19 (Nat.zero_le _)) e6 (fun m' hm => by cases hm; rfl) ha (Nat.le_trans (Nat.add_le_add_left (Nat.mul_le_mul_right _ e3) _) hc3)
    refine ⟨_, ?_, hv⟩
    simp [execOp, hxe, Instr.sliceAt, Instr.slice, run_underlying' hu, sliceBounds_run3 (P := P) (ρ := ρ) (b := true) (len := n) w (hmx _ e2) e3 (hhi _ rfl _ e5) e6 (bnd_val h19 hlo), run_sizeOf h11]
  | none =>
    simp only [sliceP, ib_eq] at h3
    split at h3
    · rename_i hs
      have hu := isStr_true hs
      obtain ⟨l0, h4, h5⟩ := ob_some.1 h3
      have := asStr_some h4; subst this
      obtain ⟨hh, h6, h7⟩ := ob_some.1 h5
      obtain ⟨l, h8, h9⟩ := ob_some.1 h7
      cases h9
      obtain ⟨s, hxe, hl⟩ := VR.str_iff hx
      have hlen : l0.length = s.size := by rw [← hl]; simp
      rw [hlen] at h6
      refine ⟨.string (s.extract l hh), ?_, s.extract l hh, rfl, ?_⟩
      · simp [execOp, hxe, Instr.sliceAt, Instr.slice, run_underlying' hu, sliceBounds_run (P := P) (ρ := ρ) (b := false) w (bnd_val h6 hhi) (bnd_val h8 hlo)]
      · rw [extract_list, ← hl, List.map_drop, List.map_take]
    · cases he : elemOf' P t with
      | some e =>
        rw [he] at h3
        simp only at h3
        have hu := elemOf'_some he
        split at h3
        · rename_i hn
          have := isNils_true hn; subst this
          obtain ⟨k, hsz, h3⟩ := ob_some.1 h3
          obtain ⟨hh, h4, h5⟩ := ob_some.1 h3
          obtain ⟨l, h6, h7⟩ := ob_some.1 h5
          cases h7
          have hxe : ρ x = .slice none 0 0 := hx
          have e1 := bnd_le h4 (Nat.le_refl _)
          have e2 := bnd_le h6 (Nat.zero_le _)
          obtain rfl : hh = 0 := by omega
          obtain rfl : l = 0 := by omega
          refine ⟨.slice none 0 0, ?_, rfl⟩
          simp [execOp, hxe, Instr.sliceAt, Instr.slice, run_underlying' hu, sliceBounds_run (P := P) (ρ := ρ) (b := true) w (bnd_val h4 hhi) (bnd_val h6 hlo), run_sizeOf hsz]
        · obtain ⟨b, o', n, es, cap, rfl, h4⟩ := obS_some h3
          obtain ⟨k, h5, h6⟩ := ob_some.1 h4
          obtain ⟨h7, h8⟩ := gd_some.1 h6
          rw [nbeq] at h7; simp only [decide_eq_true_eq] at h7; subst h7
          obtain ⟨ha, c, hxe, hc1, hc2, hc3⟩ := hx
          cases cap with
          | none =>
            simp only at h8
            obtain ⟨hh, h9, h10⟩ := ob_some.1 h8
            obtain ⟨l, h11, h12⟩ := ob_some.1 h10
            have e1 := bnd_le h9 (Nat.le_refl _)
            have hv := slcOf_VR (μ := μ) (A := A) (w := w) h12 (c := c) (bnd_le h11 (Nat.zero_le _)) (Nat.le_trans e1 hc1) (fun m hm => by cases hm) ha hc3
            refine ⟨_, ?_, hv⟩
            have hb : (hi = none ∧ hh = n) ∨ ∃ op k, hi = some op ∧ ρ op = .int k hh ∧ hh ≤ c := by
              rcases bnd_val h9 hhi with q | ⟨q1, q2, q3, q4, q5⟩
              · exact Or.inl q
              · exact Or.inr ⟨q1, q2, q3, q4, Nat.le_trans q5 hc1⟩
            simp [execOp, hxe, Instr.sliceAt, Instr.slice, run_underlying' hu, sliceBounds_run (P := P) (ρ := ρ) (b := true) w hb (bnd_val h11 hlo), run_sizeOf h5]
          | some m =>
            simp only at h8
            obtain ⟨hh, h9, h10⟩ := ob_some.1 h8
            obtain ⟨l, h11, h12⟩ := ob_some.1 h10
            have := hc2 m rfl; subst this
            have e1 := bnd_le h9 hc1
            have hv := slcOf_VR (μ := μ) (A := A) (w := w) h12 (c := c) (bnd_le h11 (Nat.zero_le _)) e1 (fun m hm => by cases hm; rfl) ha hc3
            refine ⟨_, ?_, hv⟩
            simp [execOp, hxe, Instr.sliceAt, Instr.slice, run_underlying' hu, sliceBounds_run (P := P) (ρ := ρ) (b := true) w (bnd_val h9 hhi) (bnd_val h11 hlo), run_sizeOf h5]
      | none =>
        rw [he] at h3
        simp only at h3
        obtain ⟨n, e, h4, h5⟩ := ob2_some.1 h3
        obtain ⟨b, o', h6, h7⟩ := ob2_some.1 h5
        have := asPtr_some h6; subst this
        obtain ⟨k, h8, h9⟩ := ob_some.1 h7
        obtain ⟨bn, c, h10, h11⟩ := ob2_some.1 h9
        obtain ⟨h12, h13⟩ := gd_some.1 h11
        obtain ⟨cv, h14, h15⟩ := ob_some.1 h13
        obtain ⟨hh, h16, h17⟩ := ob_some.1 h15
        obtain ⟨l, h18, h19⟩ := ob_some.1 h17
        have hu := arrOf_some h4
        obtain ⟨ha, hxe⟩ := hx
        rw [nblt] at h12; simp only [decide_eq_true_eq] at h12
        have hcell := (hacc (b, o' + (n * k - 1)) (.val cv) (by simp [cof, cellsOf_some h10, h14])).2.2
        have hs : (μ b).2 + o' + n * k ≤ bsz w (μ b).1 := by
          obtain ⟨_, _, y, q1, _⟩ := hcell
          simp only [at_, World.cell?] at q1
          unfold bsz
          split at q1
          · rename_i cs e' fr hb
            rw [hb]
            simp at q1
            have := (Array.getElem?_eq_some_iff.1 q1).1
            simp only; omega
          · cases q1
        have hv := slcOf_VR (μ := μ) (A := A) (w := w) h19 (c := n) (bnd_le h18 (Nat.zero_le _)) (bnd_le h16 (Nat.le_refl _)) (fun m hm => by cases hm; rfl) ha hs
        refine ⟨_, ?_, hv⟩
        have hm : (if n = l then some (⟨(μ b).1, (μ b).2 + o', none⟩ : Addr) else (some (⟨(μ b).1, (μ b).2 + o', none⟩ : Addr)).map (·.add (l * k))) = some (if n = l then ⟨(μ b).1, (μ b).2 + o', none⟩ else (⟨(μ b).1, (μ b).2 + o', none⟩ : Addr).add (l * k)) := by split <;> rfl
        rw [hm]
        simp [execOp, hxe, Instr.sliceAt, Instr.sureAddr, run_underlying' hu, sliceBounds_run (P := P) (ρ := ρ) (b := false) w (bnd_val h16 hhi) (bnd_val h18 hlo), run_sizeOf h8]
end
end Go.X
