/- How an argument of the types api.Zone and api.Span, read as data, stands in memory: its cells, and a row of shifts that reads as a list. -/
import Derived.Test.YtbgojnjpkflofaaPx1
import Derived.ProofKit
import Derived.OpenShut
import Derived.ShutString
import Derived.ChangeOld
import Derived.Below
import Derived.SizedLaws
import Derived.Lib.SmallJoins
namespace Go.Proofs.Ytbgojnjpkflofaa.ZOpen
open Go.RowKit Go.Proofs.YtbgojnjpkflofaaW.PrintWords Go.Proofs.YtbgojnjpkflofaaW.PrintLast Go.Proofs.YtbgojnjpkflofaaW.PrintMore
open Go.ChangeShapes Go.WideShapes Go.Deep
open Go.Proofs.Ytbgojnjpkflofaa.P

theorem cells3 : Try.prog.cellsOf 3 = 1 := by kernel_rfl
theorem cells9 : Try.prog.cellsOf 9 = 1 := by kernel_rfl
theorem cells22 : Try.prog.cellsOf 22 = 1 := by kernel_rfl
theorem cells24 : Try.prog.cellsOf 24 = 3 := by kernel_rfl
theorem cells35 : Try.prog.cellsOf 35 = 2 := by kernel_rfl
theorem cells52 : Try.prog.cellsOf 52 = 2 := by kernel_rfl

theorem list_of {α : Type} {Q : Nat → α → Prop} {n : Nat} (h : ∀ i, i < n → ∃ x, Q i x) : ∃ l : List α, l.length = n ∧ ∀ (j : Nat) (p : α), l[j]? = some p → Q j p := by
  induction n with
  | zero => exact ⟨[], rfl, fun j p hj => by simp at hj⟩
  | succ len ih =>
    obtain ⟨l, h1, h2⟩ := ih (fun i hi => h i (by omega))
    obtain ⟨a', h3⟩ := h len (by omega)
    refine ⟨l ++ [a'], by simp [h1], fun j p hj => ?_⟩
    rcases Nat.lt_or_ge j l.length with hlt | hge
    · rw [List.getElem?_append_left hlt] at hj
      exact h2 j p hj
    · have hj1 := (List.getElem?_eq_some_iff.1 hj).1
      rw [List.length_append, List.length_singleton] at hj1
      have e1 : j = l.length := by omega
      subst e1
      have e2 : a' = p := by simpa using hj
      subst e2
      rw [h1]
      exact h3

section
variable {H : Type} {enc : TypeId × Value → H} {W : World}

/-- A slice of whatever elements that read as a kind. -/
theorem slice_open {α : Type} (k : Kd α) (Wf : α → Prop) {t e : TypeId} (ht : Try.prog.underlying t = some (.slice e)) (hsz : k.sz = Try.prog.cellsOf e)
    (hop : ∀ n cs x, DataW.trod enc Try.prog W 0 (fun _ => true) true n e cs = some x → ∃ a : α, k.K W a cs ∧ Wf a)
    {n : Nat} {cs : List Value} {x : DataW H × List MemPlace} (h : DataW.trod enc Try.prog W 0 (fun _ => true) true n t cs = some x) :
    ∃ (A : Option Addr) (c : Nat) (l : List α), cs = [.slice A l.length c] ∧ l.length ≤ c ∧ k.C W A l.length l ∧ ∀ a ∈ l, Wf a := by
  rcases open_slice ht h with ⟨rfl, _⟩ | ⟨a, len, cap, m, n', D, Pl, rfl, hb, hl, hm, hmm, _, hx⟩
  · exact ⟨none, 0, [], rfl, Nat.le_refl _, ⟨rfl, by simp, fun h => by simp at h⟩, fun a ha => by cases ha⟩
  · simp only [if_true] at hmm
    subst hmm
    have each : ∀ i, i < len → ∃ a' : α, Wf a' ∧ ∃ cs', W.cells? 0 (a.add (i * Try.prog.cellsOf e)) (Try.prog.cellsOf e) = some cs' ∧ k.K W a' cs' := by
      intro i hi
      obtain ⟨cs', h1, h2⟩ := hx i (by omega)
      obtain ⟨a', h3, h4⟩ := hop _ _ _ h2
      exact ⟨a', h4, cs', h1, h3⟩
    have hlist := list_of each
    obtain ⟨l, hl1, hl2⟩ := hlist
    subst hl1
    refine ⟨some a, m, l, rfl, hl, ⟨rfl, ?_, fun _ => ⟨a, rfl, fun j p hj => ?_⟩⟩, fun p hp => ?_⟩
    · unfold maxLen at hm
      omega
    · obtain ⟨_, cs', h1, h2⟩ := hl2 j p hj
      obtain ⟨_, hlen, hcell⟩ := World.cells?_some h1
      refine ⟨cs', by rw [hlen, hsz], h2, fun i u hu => ?_⟩
      have hi : i < Try.prog.cellsOf e := by
        have := (List.getElem?_eq_some_iff.1 hu).1
        omega
      have := hcell i hi
      rw [Deep.add_add] at this
      rw [hsz, this, hu]
    · obtain ⟨j, hj, hp'⟩ := List.getElem_of_mem hp
      exact (hl2 j p (by rw [List.getElem?_eq_getElem hj, hp'])).1

/-- A whole number of 64 bits. -/
def In64 (n : Int) : Prop := -9223372036854775808 ≤ n ∧ n ≤ 9223372036854775807
theorem in64 {n : Int} (h : (Lit.int .i64 n).wf = true) : In64 n := by
  have := bounds_i64 h
  exact this
def WfShift (x : S52) : Prop := In64 x.f0 ∧ In64 x.f1
theorem shift_open (n : Nat) (cs : List Value) (x : DataW H × List MemPlace) (h : DataW.trod enc Try.prog W 0 (fun _ => true) true n 52 cs = some x) : ∃ a : S52, k52.K W a cs ∧ WfShift a := by
  obtain ⟨xs, k, rfl, rfl, hlen, hxl, hf⟩ := DataW.trod_struct Try.underlying52 h
  rw [cells52] at hlen
  match cs, hlen, xs, hxl with
  | [v0, v1], _, [y0, y1], _ =>
    have g0 := hf 0 _ rfl
    have g1 := hf 1 _ rfl
    simp [cells3] at g0 g1
    obtain ⟨a, e0, _, w0⟩ := DataW.trod_int Try.underlying3 g0
    obtain ⟨b, e1, _, w1⟩ := DataW.trod_int Try.underlying3 g1
    simp at e0 e1
    subst e0 e1
    exact ⟨⟨a, b⟩, k52_mk W ⟨a, b⟩, in64 w0, in64 w1⟩

theorem zone_open {base : Nat} {v : Value} {d : DataW H} {p : List MemPlace} (hv : Value.okWide Try.prog W .any base 24 v) (h : DataW.Trod enc Try.prog W 0 (fun _ => true) true 24 v d p) :
    ∃ (s : ByteArray) (o : Int) (A : Option Addr) (c : Nat) (l : List S52), v = .agg #[.string s, .int .i64 o, .slice A l.length c] ∧ In64 o ∧ l.length ≤ c ∧ Kd.C k52 W A l.length l ∧ ∀ a ∈ l, WfShift a := by
  obtain ⟨v0, v1, v2, y0, y1, y2, n, rfl, _, _, h0, h1, h2⟩ := Joins.open_agg3 Try.underlying24 (by kernel_rfl) cells24 hv h
  obtain ⟨s, e0, _, _⟩ := DataW.trod_string Try.underlying9 h0
  obtain ⟨o, e1, _, w1⟩ := DataW.trod_int Try.underlying3 h1
  obtain ⟨A, c, l, e2, hc, hC, hw⟩ := slice_open k52 WfShift Try.underlying22 (by rw [cells52]; rfl) shift_open h2
  simp at e0 e1 e2
  subst e0 e1 e2
  exact ⟨s, o, A, c, l, rfl, in64 w1, hc, hC, hw⟩

theorem span_open {base : Nat} {v : Value} {d : DataW H} {p : List MemPlace} (hv : Value.okWide Try.prog W .any base 35 v) (h : DataW.Trod enc Try.prog W 0 (fun _ => true) true 35 v d p) :
    ∃ a b : Int, v = .agg #[.int .i64 a, .int .i64 b] ∧ In64 a ∧ In64 b := by
  obtain ⟨v0, v1, y0, y1, n, rfl, _, _, h0, h1⟩ := Joins.open_agg2 Try.underlying35 (by kernel_rfl) cells35 hv h
  obtain ⟨a, e0, _, w0⟩ := DataW.trod_int Try.underlying3 h0
  obtain ⟨b, e1, _, w1⟩ := DataW.trod_int Try.underlying3 h1
  simp at e0 e1
  subst e0 e1
  exact ⟨a, b, rfl, in64 w0, in64 w1⟩
end
end Go.Proofs.Ytbgojnjpkflofaa.ZOpen
