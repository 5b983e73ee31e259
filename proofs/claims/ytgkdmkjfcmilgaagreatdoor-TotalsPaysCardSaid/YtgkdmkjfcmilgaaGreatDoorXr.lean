/- What the executor says of one operation is what the model does: maps, lengths; every operation. -/
import Derived.Test.YtgkdmkjfcmilgaaGreatDoorXq
set_option linter.unusedVariables false
set_option linter.unusedSimpArgs false
namespace Go.X
section
variable {P : Program} {f : Operand → Option V} {acc : Nat → Option Blk} {nx : Nat} {r : PR}
theorem MR.length {μ : Nat → Nat × Nat} {A : Nat → Prop} {w : World} : ∀ {es : List (V × V × Nat)} {ms : List MapEntry}, MR μ A w es ms → es.length = ms.length
  | [], [], _ => rfl
  | [], _ :: _, h => h.elim
  | _ :: _, [], h => h.elim
  | (_, _, _) :: es, _ :: ms, h => by simp only [MR] at h; simp [MR.length h.2.2.2]
theorem mapSet_sound {μ : Nat → Nat × Nat} {A : Nat → Prop} {w : World} {q kk : IntKind} {n : Int} {v : V} {x : Value} {clock : Nat} (hv : VR μ A w v x) :
    ∀ {es es' : List (V × V × Nat)} {g : Bool} {ms : List MapEntry} (i : Nat), mapSet (.int kk n) v n kk clock es = some (es', g) → MR μ A w es ms →
      (g = true ∧ Instr.findNow (.int q) (.int kk n) ms i = some none ∧ MR μ A w es' (ms ++ [{ key := .int kk n, val := x, born := clock }])) ∨
      (g = false ∧ ∃ j y, Instr.findNow (.int q) (.int kk n) ms i = some (some (i + j, y)) ∧ (ms[j]?).map (·.key) = some (.int kk n) ∧ MR μ A w es' (ms.modify j fun e => { e with key := .int kk n, val := x }))
  | [], es', g, [], i, h, _ => by
    obtain ⟨rfl, rfl⟩ := Prod.mk.inj (Option.some.inj h)
    exact Or.inl ⟨rfl, rfl, ⟨rfl, hv, rfl, trivial⟩⟩
  | [], _, _, _ :: _, _, _, h => h.elim
  | _ :: _, _, _, [], _, _, h => h.elim
  | (a, u, b) :: es, es', g, m :: ms, i, h, hm => by
    simp only [MR] at hm
    obtain ⟨h1, h2, h3, h4⟩ := hm
    obtain ⟨kk', a', h5, h6⟩ := ob2_some.1 h
    have := asInt_some h5; subst this
    obtain ⟨h7, h8⟩ := gd_some.1 h6
    have := kindEq_eq h7; subst this
    have hk : m.key = .int kk a' := h1
    rw [ib_eq, ieq_eq] at h8
    by_cases e : n = a'
    · subst e
      simp only [beq_self_eq_true, if_true] at h8
      obtain ⟨rfl, rfl⟩ := Prod.mk.inj (Option.some.inj h8)
      refine Or.inr ⟨rfl, 0, m.val, by simp [Instr.findNow, Instr.sameNow, hk], by simp [hk], ?_⟩
      simp only [List.modify_zero_cons, MR]
      exact ⟨rfl, hv, h3, h4⟩
    · have e1 : (n == a') = false := by simpa using e
      rw [e1] at h8
      simp only [Bool.false_eq_true, if_false] at h8
      obtain ⟨es2, g2, h9, h10⟩ := ob2_some.1 h8
      obtain ⟨rfl, rfl⟩ := Prod.mk.inj (Option.some.inj h10)
      have hf : ∀ rest, Instr.findNow (.int q) (.int kk n) (m :: rest) i = Instr.findNow (.int q) (.int kk n) rest (i + 1) := by
        intro rest; simp [Instr.findNow, Instr.sameNow, hk, e1]
      rcases mapSet_sound hv (i + 1) h9 h4 with ⟨q1, q2, q3⟩ | ⟨q1, j, y, q2, q3, q4⟩
      · exact Or.inl ⟨q1, by rw [hf]; exact q2, ⟨h1, h2, h3, q3⟩⟩
      · refine Or.inr ⟨q1, j + 1, y, by rw [hf, q2]; congr 3; omega, by simpa using q3, ?_⟩
        simp only [List.modify_succ_cons, MR]
        exact ⟨h1, h2, h3, q4⟩
theorem post_map {μ : Nat → Nat × Nat} {A : Nat → Prop} {w w' : World} {b : Nat} {es es' : List (V × V × Nat)} {ck ck' : Nat} {ms' : Array MapEntry} (hb : acc b = some (.mp es ck)) (hlt : b < nx) (hA : A b)
    (hh : CR μ A w (b, 0) (.mp es ck)) (hw : w' = { w with heap := w.heap.setIfInBounds (μ b).1 (.map ms' ck') }) (hm : MR μ A w es' ms'.toList) :
    Post (cof acc) (upKey nx nx [(b, none, .mp es' ck')]) (upVal [(b, none, .mp es' ck')]) (.tup []) (fun id => A id ∨ (nx ≤ id ∧ id < nx)) A μ μ w w' undef := by
  obtain ⟨_, ms, hms, _⟩ := hh
  have hlt2 : (μ b).1 < w.heap.size := (Array.getElem?_eq_some_iff.1 hms).1
  have hnew : w'.heap[(μ b).1]? = some (.map ms' ck') := by rw [hw]; simp [hlt2]
  have hold : ∀ c, c ≠ (μ b).1 → w'.heap[c]? = w.heap[c]? := by
    intro c hc; rw [hw]; simp only [Array.getElem?_setIfInBounds]; rw [if_neg (fun e => hc e.symm)]
  have hbs : ∀ c, bsz w c ≤ bsz w' c := by
    intro c
    by_cases e : c = (μ b).1
    · subst e; unfold bsz; rw [hms]; exact Nat.zero_le _
    · unfold bsz; rw [hold c e]; exact Nat.le_refl _
  have hle : Le μ μ A (fun id => A id ∨ (nx ≤ id ∧ id < nx)) w w' := ⟨fun _ => Or.inl, fun _ _ => rfl, hbs⟩
  have hk : ∀ k, upKey nx nx [(b, none, .mp es' ck')] k → k.1 = b := by
    rintro k (h | ⟨e, h, _, h2, _⟩)
    · omega
    · simp at h; subst h; exact h2.symm
  have hkb : ∀ j, upKey nx nx [(b, none, .mp es' ck')] (b, j) := fun j => Or.inr ⟨(b, none, .mp es' ck'), by simp, hlt, rfl, fun r hr => by cases hr⟩
  refine ⟨hle, ⟨#[], rfl, trivial⟩, ?_, ?_, ?_, ?_⟩
  · intro k c h1 h2
    have e := hk k h1
    obtain ⟨i, j⟩ := k; simp only at e; subst e
    simp only [upVal, cof, upB, if_true] at h2
    split at h2
    · rename_i hj
      cases h2
      exact ⟨Or.inl hA, hj, ms', hnew, MR.up hle _ _ hm⟩
    · cases h2
  · intro k k' c c' h1 h2 _ _ hn
    exact absurd ((hk k h1).trans (hk k' h2).symm) hn
  · intro k c h1 _ hn
    exact absurd (hk k h1 ▸ hA) hn
  · have hcell : ∀ (o : Nat), w'.cell? ⟨(μ b).1, o, none⟩ = w.cell? ⟨(μ b).1, o, none⟩ ∧ w'.frozen? ⟨(μ b).1, o, none⟩ = w.frozen? ⟨(μ b).1, o, none⟩ := by
      intro o; simp [World.cell?, World.frozen?, hnew, hms]
    refine ⟨by rw [hw], by rw [hw], by rw [hw], by rw [hw]; simp, fun bb p _ hn => ?_, fun bb p _ => ?_, fun bb _ hn => ?_, hbs⟩
    · by_cases e : bb = (μ b).1
      · rw [e]; exact (hcell p).1
      · simp [World.cell?, hold bb e]
    · by_cases e : bb = (μ b).1
      · rw [e]; exact (hcell p).2
      · simp [World.frozen?, hold bb e]
    · by_cases e : bb = (μ b).1
      · exact absurd ⟨(b, 0), 0, hkb 0, by simp [cof, hb], e, Or.inl rfl⟩ (hn ((μ b).2 + 0))
      · exact hold bb e
theorem mapIntOf_true {t : TypeId} (h : mapIntOf P t = true) : ∃ kt vt q, P.underlying t = some (.map kt vt) ∧ P.underlying kt = some (.int q) := by
  unfold mapIntOf at h
  split at h
  · split at h
    · rename_i a kt vt hm b2 q hq; exact ⟨kt, vt, q, hm, hq⟩
    · cases h
  · cases h
theorem checkKey_int {kt : TypeId} {q kk : IntKind} {n : Int} (h : P.underlying kt = some (.int q)) (w : World) : (Instr.checkKey false 10000 kt (.int kk n)).run P w = .ok () w := by
  show (Instr.checkKey false (9999 + 1) kt (.int kk n)).run P w = .ok () w
  generalize 9999 = d
  simp only [Instr.checkKey]
  simp [run_underlying' h]
theorem sameBits_int (d : Nat) (k : IntKind) (n : Int) : Instr.sameBits d (.int k n) (.int k n) = true := by cases d <;> simp [Instr.sameBits]
theorem pMapUpdate_ok {t : TypeId} {m k v : Operand} (h : pMapUpdate t m k v P f acc nx = some r) : PrimOK P f acc nx (.mapUpdate t m k v) r := by
  obtain ⟨mv, h1, h2⟩ := ob_some.1 h
  obtain ⟨kv, h3, h4⟩ := ob_some.1 h2
  obtain ⟨vv, h5, h6⟩ := ob_some.1 h4
  obtain ⟨_, h7⟩ := gd_some.1 h6
  obtain ⟨h8, h9⟩ := gd_some.1 h7
  obtain ⟨b, h10, h11⟩ := ob_some.1 h9
  have := asMap_some h10; subst this
  obtain ⟨kk, n, h12, h13⟩ := ob2_some.1 h11
  have := asInt_some h12; subst this
  obtain ⟨es, ck, h14, h15⟩ := ob2_some.1 h13
  obtain ⟨blk, h16, h17⟩ := ob_some.1 h14
  have := asMp_some h17; subst this
  obtain ⟨es', g, h18, h19⟩ := ob2_some.1 h15
  obtain ⟨kt, vt, q, hm, hq⟩ := mapIntOf_true h8
  have hcof : cof acc (b, 0) = some (.mp es ck) := by simp [cof, h16]
  have key : ∀ (ck' : Nat), (g = true → ck' = ck + 1) → (g = false → ck' = ck) → PrimOK P f acc nx (.mapUpdate t m k v) (.eff (.tup []) [(b, none, .mp es' ck')] nx) := by
    intro ck' hg1 hg2
    refine ⟨Nat.le_refl _, fun e he => ?_, fun μ A w ρ o ho hρ hacc _ _ => ?_⟩
    · simp at he; subst he
      exact Or.inr ⟨⟨0, by rw [hcof]; simp⟩, fun r hr => by cases hr⟩
    · obtain ⟨hA, hmv⟩ := hρ m (by simp [Op.operands]) _ h1
      have hkv : ρ k = .int kk n := hρ k (by simp [Op.operands]) _ h3
      have hvv := hρ v (by simp [Op.operands]) _ h5
      have hc := hacc (b, 0) _ hcof
      obtain ⟨_, ms, hms, hMR⟩ := hc.2.2
      have hget : ∀ (k2 : Obj → Sem Unit), True := fun _ => trivial
      obtain ⟨dst, op, ty, pos, after, guard⟩ := o
      simp only at ho; subst ho
      have hobj : (getObj (μ b).1).run P w = .ok (.map ms ck) w := by simp [getObj, Sem.run, hms]
      have hset : ∀ ob : Obj, (setObj (μ b).1 ob).run P w = .ok () { w with heap := w.heap.setIfInBounds (μ b).1 ob } := fun ob => by simp [setObj, Sem.run, hms]
      rcases mapSet_sound (q := q) hvv 0 h18 hMR with ⟨q1, q2, q3⟩ | ⟨q1, j, y, q2, q3, q4⟩
      · have := hg1 q1; subst this
        refine ⟨undef, _, μ, Or.inr ⟨?_, rfl⟩, post_map (ms' := ms.push { key := .int kk n, val := ρ v, born := ck }) h16 hc.2.1 hA hc.2.2 rfl (by simpa using q3)⟩
        simp [execOp, hmv, hkv, Instr.mapUpdate, run_underlying' hm, hobj, checkKey_int hq, Instr.findKey, run_underlying' hq, q2, hset]
      · have := hg2 q1; subst this
        refine ⟨undef, _, μ, Or.inr ⟨?_, rfl⟩, post_map (ms' := ms.modify j fun e => { e with key := .int kk n, val := ρ v }) h16 hc.2.1 hA hc.2.2 rfl (by rw [Array.toList_modify]; exact q4)⟩
        have hkey : ((ms[0 + j]?).map (·.key)).getD (.int kk n) = .int kk n := by
          rw [Nat.zero_add]
          have : (ms[j]?).map (·.key) = some (.int kk n) := by rw [← Array.getElem?_toList]; exact q3
          rw [this]; rfl
        simp only [Nat.zero_add] at hkey q2
        simp [execOp, hmv, hkv, Instr.mapUpdate, run_underlying' hm, hobj, checkKey_int hq, Instr.findKey, run_underlying' hq, q2, Instr.keyThatStays, hkey, sameBits_int, hset]
  rw [ib_eq] at h19
  cases g with
  | true =>
    simp only [if_true] at h19
    rw [num_eq] at h19; cases h19
    exact key (ck + 1) (fun _ => rfl) (fun h => by cases h)
  | false =>
    simp only [Bool.false_eq_true, if_false] at h19
    cases h19
    exact key ck (fun h => by cases h) (fun _ => rfl)
end
end Go.X
