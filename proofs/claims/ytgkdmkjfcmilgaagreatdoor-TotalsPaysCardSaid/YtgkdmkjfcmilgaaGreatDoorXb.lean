/- The executor's values, blocks and heap, and how they read in a world of the model. -/
import Derived.Test.YtgkdmkjfcmilgaaGreatDoorXa
set_option linter.unusedVariables false
set_option linter.unusedSimpArgs false
namespace Go.X
inductive V where
  | bool (b : Bool)
  | int (k : IntKind) (n : Int)
  | str (l : List Nat)
  | ptr (b o : Nat)
  | nilp
  | slc (b o n es : Nat) (cap : Option Nat)
  | emp
  | nils
  | mapv (b : Nat)
  | nilm
  | fn (f : FuncId) (caps : List V)
  | nilf
  | nili
  | ifc (t : TypeId) (v : V)
  | agg (l : List V)
  | tup (l : List V)
def V.cells : V → List V
  | .agg l => l
  | v => [v]
def V.one : V → Bool
  | .agg _ | .tup _ => false
  | _ => true
inductive Blk where
  | cells (n : Nat) (c : T V)
  | mp (es : List (V × V × Nat)) (clock : Nat)
  | dead
/-- How many cells a block of the world has. -/
def bsz (w : World) (b : Nat) : Nat := match w.heap[b]? with
  | some (.cells c _ _) => c.size
  | _ => 0
mutual
def VR (μ : Nat → Nat × Nat) (A : Nat → Prop) (w : World) : V → Value → Prop
  | .bool b, x => x = .bool b
  | .int k n, x => x = .int k n
  | .str l, x => ∃ s : ByteArray, x = .string s ∧ s.data.toList.map UInt8.toNat = l
  | .ptr b o, x => A b ∧ x = .pointer (some ⟨(μ b).1, (μ b).2 + o, none⟩)
  | .nilp, x => x = .pointer none
  | .slc b o n es cap, x => A b ∧ ∃ k, x = .slice (some ⟨(μ b).1, (μ b).2 + o, none⟩) n k ∧ n ≤ k ∧ (∀ c, cap = some c → k = c) ∧ (μ b).2 + o + k * es ≤ bsz w (μ b).1
  | .emp, x => ∃ a k, x = .slice (some a) 0 k
  | .nils, x => x = .slice none 0 0
  | .mapv b, x => A b ∧ x = .map (some (μ b).1)
  | .nilm, x => x = .map none
  | .fn f caps, x => ∃ cs : Array Value, x = .func (.func f) #[] cs ∧ VRs μ A w caps cs.toList
  | .nilf, x => x = .nilFunc
  | .nili, x => x = .nilIface
  | .ifc t v, x => ∃ y, x = .iface t y ∧ VR μ A w v y
  | .agg l, x => ∃ cs : Array Value, x = .agg cs ∧ VRs μ A w l cs.toList
  | .tup l, x => ∃ cs : Array Value, x = .tuple cs ∧ VRs μ A w l cs.toList
def VRs (μ : Nat → Nat × Nat) (A : Nat → Prop) (w : World) : List V → List Value → Prop
  | [], [] => True
  | v :: l, x :: xs => VR μ A w v x ∧ VRs μ A w l xs
  | _, _ => False
end
/-- What was known of values stays known: more blocks are spoken of, the old ones as before; no block has fewer cells. -/
structure Le (μ μ' : Nat → Nat × Nat) (A A' : Nat → Prop) (w w' : World) : Prop where
  sub : ∀ i, A i → A' i
  same : ∀ i, A i → μ' i = μ i
  bs : ∀ b, bsz w b ≤ bsz w' b
theorem Le.refl (μ : Nat → Nat × Nat) (A : Nat → Prop) (w : World) : Le μ μ A A w w := ⟨fun _ h => h, fun _ _ => rfl, fun _ => Nat.le_refl _⟩
theorem Le.trans {μ1 μ2 μ3 : Nat → Nat × Nat} {A1 A2 A3 : Nat → Prop} {w1 w2 w3 : World} (h : Le μ1 μ2 A1 A2 w1 w2) (k : Le μ2 μ3 A2 A3 w2 w3) : Le μ1 μ3 A1 A3 w1 w3 :=
  ⟨fun i hi => k.sub i (h.sub i hi), fun i hi => (k.same i (h.sub i hi)).trans (h.same i hi), fun b => Nat.le_trans (h.bs b) (k.bs b)⟩
section
variable {μ μ' : Nat → Nat × Nat} {A A' : Nat → Prop} {w w' : World}
mutual
theorem VR.up (h : Le μ μ' A A' w w') : ∀ (v : V) (x : Value), VR μ A w v x → VR μ' A' w' v x
  | .bool _, _, hx => hx
  | .int _ _, _, hx => hx
  | .str _, _, hx => hx
  | .ptr b o, x, hx => by simp only [VR] at hx ⊢; exact ⟨h.sub _ hx.1, by rw [h.same _ hx.1]; exact hx.2⟩
  | .nilp, _, hx => hx
  | .slc b o n es cap, x, hx => by
    simp only [VR] at hx ⊢
    obtain ⟨ha, k, h1, h2, h3, h4⟩ := hx
    exact ⟨h.sub _ ha, k, by rw [h.same _ ha]; exact h1, h2, h3, by rw [h.same _ ha]; exact Nat.le_trans h4 (h.bs _)⟩
  | .emp, _, hx => hx
  | .nils, _, hx => hx
  | .mapv b, x, hx => by simp only [VR] at hx ⊢; exact ⟨h.sub _ hx.1, by rw [h.same _ hx.1]; exact hx.2⟩
  | .nilm, _, hx => hx
  | .fn f caps, x, hx => by
    simp only [VR] at hx ⊢
    obtain ⟨cs, h1, h2⟩ := hx
    exact ⟨cs, h1, VRs.up h caps cs.toList h2⟩
  | .nilf, _, hx => hx
  | .nili, _, hx => hx
  | .ifc t v, x, hx => by
    simp only [VR] at hx ⊢
    obtain ⟨y, h1, h2⟩ := hx
    exact ⟨y, h1, VR.up h v y h2⟩
  | .agg l, x, hx => by
    simp only [VR] at hx ⊢
    obtain ⟨cs, h1, h2⟩ := hx
    exact ⟨cs, h1, VRs.up h l cs.toList h2⟩
  | .tup l, x, hx => by
    simp only [VR] at hx ⊢
    obtain ⟨cs, h1, h2⟩ := hx
    exact ⟨cs, h1, VRs.up h l cs.toList h2⟩
theorem VRs.up (h : Le μ μ' A A' w w') : ∀ (l : List V) (xs : List Value), VRs μ A w l xs → VRs μ' A' w' l xs
  | [], [], hx => hx
  | [], _ :: _, hx => hx.elim
  | _ :: _, [], hx => hx.elim
  | v :: l, x :: xs, hx => by simp only [VRs] at hx ⊢; exact ⟨VR.up h v x hx.1, VRs.up h l xs hx.2⟩
end
theorem VRs.length : ∀ {l : List V} {xs : List Value}, VRs μ A w l xs → l.length = xs.length
  | [], [], _ => rfl
  | [], _ :: _, h => h.elim
  | _ :: _, [], h => h.elim
  | _ :: l, _ :: xs, h => by simp only [VRs] at h; simp [VRs.length h.2]
theorem VRs.app : ∀ {l1 l2 : List V} {xs1 xs2 : List Value}, VRs μ A w l1 xs1 → VRs μ A w l2 xs2 → VRs μ A w (l1 ++ l2) (xs1 ++ xs2)
  | [], _, [], _, _, h => h
  | [], _, _ :: _, _, h, _ => h.elim
  | _ :: _, _, [], _, h, _ => h.elim
  | _ :: _, _, _ :: _, _, h, k => by simp only [VRs, List.cons_append] at h ⊢; exact ⟨h.1, VRs.app h.2 k⟩
theorem VRs.nth : ∀ {l : List V} {xs : List Value} (i : Nat) (v : V), VRs μ A w l xs → l[i]? = some v → ∃ x, xs[i]? = some x ∧ VR μ A w v x
  | [], [], i, _, _, h => by simp at h
  | [], _ :: _, _, _, h, _ => h.elim
  | _ :: _, [], _, _, h, _ => h.elim
  | u :: l, x :: xs, i, v, h, k => by
    simp only [VRs] at h
    cases i with
    | zero => simp at k; subst k; exact ⟨x, rfl, h.1⟩
    | succ i => exact VRs.nth (l := l) (xs := xs) i v h.2 (by simpa using k)
end
/-- Map entries, in their order. -/
def MR (μ : Nat → Nat × Nat) (A : Nat → Prop) (w : World) : List (V × V × Nat) → List MapEntry → Prop
  | [], [] => True
  | (k, v, n) :: l, e :: es => VR μ A w k e.key ∧ VR μ A w v e.val ∧ e.born = n ∧ MR μ A w l es
  | _, _ => False
/-- What stands under a block's number and a cell's: a value, or the whole of a map (under cell 0). -/
inductive Cell where
  | val (v : V)
  | mp (es : List (V × V × Nat)) (clock : Nat)
abbrev K := Nat × Nat
noncomputable def cof (h : Nat → Option Blk) (k : K) : Option Cell := match h k.1 with
  | some (.cells _ c) => (c.get k.2).map .val
  | some (.mp es ck) => if k.2 = 0 then some (.mp es ck) else none
  | _ => none
def at_ (μ : Nat → Nat × Nat) (k : K) : Addr := ⟨(μ k.1).1, (μ k.1).2 + k.2, none⟩
/-- How a cell reads at the place that is its own. -/
def CR (μ : Nat → Nat × Nat) (A : Nat → Prop) (w : World) (k : K) : Cell → Prop
  | .val v => v.one = true ∧ (∀ o, w.frozen? ⟨(μ k.1).1, o, none⟩ = false) ∧ ∃ x, w.cell? (at_ μ k) = some x ∧ VR μ A w v x
  | .mp es clock => k.2 = 0 ∧ ∃ ms : Array MapEntry, w.heap[(μ k.1).1]? = some (.map ms clock) ∧ MR μ A w es ms.toList
section
variable {μ μ' : Nat → Nat × Nat} {A A' : Nat → Prop} {w w' : World}
theorem MR.up (h : Le μ μ' A A' w w') : ∀ (l : List (V × V × Nat)) (es : List MapEntry), MR μ A w l es → MR μ' A' w' l es
  | [], [], hx => hx
  | [], _ :: _, hx => hx.elim
  | _ :: _, [], hx => hx.elim
  | (k, v, n) :: l, e :: es, hx => by simp only [MR] at hx ⊢; exact ⟨VR.up h _ _ hx.1, VR.up h _ _ hx.2.1, hx.2.2.1, MR.up h l es hx.2.2.2⟩
theorem CR.lt {k : K} : ∀ {c : Cell}, CR μ A w k c → (μ k.1).1 < w.heap.size
  | .val v, h => by
    obtain ⟨_, _, x, h1, _⟩ := h
    unfold World.cell? at h1
    split at h1
    · rename_i h2; exact (Array.getElem?_eq_some_iff.1 h2).1
    · cases h1
  | .mp es ck, h => by
    obtain ⟨_, ms, h1, _⟩ := h
    exact (Array.getElem?_eq_some_iff.1 h1).1
/-- A map's block holds no cell. -/
theorem CR.alone {k k' : K} {es : List (V × V × Nat)} {ck : Nat} {c : Cell} (h : CR μ A w k (.mp es ck)) (h' : CR μ A w k' c) (he : k.1 = k'.1) : k = k' := by
  obtain ⟨h0, ms, h1, _⟩ := h
  cases c with
  | mp es' ck' => obtain ⟨h0', _⟩ := h'; exact Prod.ext he (by rw [h0, h0'])
  | val v =>
    obtain ⟨_, _, x, h2, _⟩ := h'
    simp only [World.cell?, at_, ← he, h1] at h2
    cases h2
/-- Between two worlds nothing has turned but the cells of `B` and what is new. -/
structure Fr (B : Nat → Nat → Prop) (w w' : World) : Prop where
  os : w'.os = w.os
  tape : w'.tape = w.tape
  output : w'.output = w.output
  size : w.heap.size ≤ w'.heap.size
  cell : ∀ b o, b < w.heap.size → ¬ B b o → w'.cell? ⟨b, o, none⟩ = w.cell? ⟨b, o, none⟩
  froz : ∀ b o, b < w.heap.size → w'.frozen? ⟨b, o, none⟩ = w.frozen? ⟨b, o, none⟩
  obj : ∀ b, b < w.heap.size → (∀ o, ¬ B b o) → w'.heap[b]? = w.heap[b]?
  bs : ∀ b, bsz w b ≤ bsz w' b
theorem Fr.refl (B : Nat → Nat → Prop) (w : World) : Fr B w w := ⟨rfl, rfl, rfl, Nat.le_refl _, fun _ _ _ _ => rfl, fun _ _ _ => rfl, fun _ _ _ => rfl, fun _ => Nat.le_refl _⟩
theorem Fr.mono {B B' : Nat → Nat → Prop} {w w' : World} (h : Fr B w w') (hb : ∀ b o, b < w.heap.size → B b o → B' b o) : Fr B' w w' :=
  ⟨h.os, h.tape, h.output, h.size, fun b o hlt hn => h.cell b o hlt fun hB => hn (hb b o hlt hB), h.froz, fun b hlt hn => h.obj b hlt fun o hB => hn o (hb b o hlt hB), h.bs⟩
theorem Fr.trans {B C : Nat → Nat → Prop} {w1 w2 w3 : World} (h : Fr B w1 w2) (k : Fr C w2 w3) (hc : ∀ b o, b < w1.heap.size → C b o → B b o) : Fr B w1 w3 :=
  ⟨k.os.trans h.os, k.tape.trans h.tape, k.output.trans h.output, Nat.le_trans h.size k.size,
   fun b o hlt hn => (k.cell b o (Nat.lt_of_lt_of_le hlt h.size) fun hC => hn (hc b o hlt hC)).trans (h.cell b o hlt hn),
   fun b o hlt => (k.froz b o (Nat.lt_of_lt_of_le hlt h.size)).trans (h.froz b o hlt),
   fun b hlt hn => (k.obj b (Nat.lt_of_lt_of_le hlt h.size) fun o hC => hn o (hc b o hlt hC)).trans (h.obj b hlt hn), fun b => Nat.le_trans (h.bs b) (k.bs b)⟩
/-- A cell that was not turned reads as it did. -/
theorem CR.up (h : Le μ μ' A A' w w') {k : K} (hm : μ' k.1 = μ k.1) (hc : w'.cell? (at_ μ k) = w.cell? (at_ μ k)) (hf : ∀ o, w'.frozen? ⟨(μ k.1).1, o, none⟩ = w.frozen? ⟨(μ k.1).1, o, none⟩) :
    ∀ c : Cell, (∀ es ck, c = .mp es ck → w'.heap[(μ k.1).1]? = w.heap[(μ k.1).1]?) → CR μ A w k c → CR μ' A' w' k c
  | .val v, _, hb => by
    obtain ⟨h1, h2, x, h3, h4⟩ := hb
    have e : at_ μ' k = at_ μ k := by unfold at_; rw [hm]
    exact ⟨h1, fun o => by rw [hm, hf]; exact h2 o, x, by rw [e, hc]; exact h3, VR.up h _ _ h4⟩
  | .mp es clock, ho, hb => by
    obtain ⟨h0, ms, h1, h2⟩ := hb
    exact ⟨h0, ms, by rw [hm, ho es clock rfl]; exact h1, MR.up h _ _ h2⟩
end
end Go.X
