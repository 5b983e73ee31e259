/- For any three pairings, pairinglaw15.MeasureOrders returns true: CompareDuties and ComparePairings are the specified order, antisymmetric and transitive. Conditions: those of the given row (the program's listed variables hold what their initialisers lay; a calm tape). -/
import Derived.Test.YtilnppdognejbaaGreatDoorCards
import Derived.Test.YtilnppdognejbaaGreatDoorTie
import Derived.Clock
import Derived.WalkKit
import Derived.ProofKit
import Derived.OpenShut
import Derived.ShutString
import Derived.ChangeOld
import Derived.ChangeMaps5
import Derived.Below
import Derived.SizedLaws
import Derived.Deep.DeepHandedRow
import Derived.Lib.LaidTab
import Derived.Test.YtilnppdognejbaaGreatDoorPo1
import Derived.Test.YtilnppdognejbaaGreatDoorPo6
namespace Go.Proofs.YtilnppdognejbaaGreatDoor.measureOrders
open Go.ChangeShapes Go.WideShapes Go.ChangeAt Go.RowKit Go.Clock Go.Joins Go.Proofs.YtilnppdognejbaaGreatDoorW.PrintWords
open Go.ChangeMaps (open_string shut_string)
set_option linter.unusedVariables false
theorem own : ownKnob Tryz.prog.godebug = none := by kernel_rfl
theorem laidOut : laidOutB Tryz.prog = true := by kernel_rfl
theorem cells4 : Tryz.prog.cellsOf 4 = 1 := by kernel_rfl
theorem cells43 : Tryz.prog.cellsOf 43 = 2 := by kernel_rfl
theorem cells48 : Tryz.prog.cellsOf 48 = 1 := by kernel_rfl
theorem cells50 : Tryz.prog.cellsOf 50 = 2 := by kernel_rfl
section
variable {H : Type} {enc : TypeId × Value → H} {W : World}
set_option maxRecDepth 100000 in
theorem task_open (n : Nat) (cs : List Value) (x : DataW H × List MemPlace) (h : DataW.trod enc Tryz.prog W 0 (fun _ => true) true n 50 cs = some x) : ∃ a : P.S50, P.k50.K W a cs ∧ True := by
  obtain ⟨xs, k, rfl, rfl, hlen, hxl, hf⟩ := DataW.trod_struct Tryz.underlying50 h
  rw [cells50] at hlen
  match cs, hlen, xs, hxl with
  | [v0, v1], _, [y0, y1], _ =>
    have g0 := hf 0 _ rfl
    have g1 := hf 1 _ rfl
    simp [Mo.cells3, cells4] at g0 g1
    obtain ⟨a, e0, _, _⟩ := DataW.trod_int Tryz.underlying3 g0
    obtain ⟨b, e1, _, _⟩ := DataW.trod_bool Tryz.underlying4 g1
    simp at e0 e1
    subst e0 e1
    exact ⟨⟨a, b⟩, P.k50_mk W ⟨a, b⟩, trivial⟩
set_option maxRecDepth 100000 in
theorem duty_open (n : Nat) (cs : List Value) (x : DataW H × List MemPlace) (h : DataW.trod enc Tryz.prog W 0 (fun _ => true) true n 48 cs = some x) : ∃ a : List P.S50, (Kd.slice 50 P.k50).K W a cs ∧ a.length ≤ 9223372036854775807 := by
  obtain ⟨A, c, l, rfl, hc, hC, -⟩ := Mo.slice_open P.k50 (fun _ => True) Tryz.underlying48 (by rw [cells50]; rfl) task_open h
  exact ⟨l, ⟨A, c, rfl, hc, hC⟩, hC.2.1⟩
set_option maxRecDepth 100000 in
theorem pairing_open {r : Reach} {b0 : Nat} {v : Value} {d : DataW H} {p : List MemPlace} (hv : Value.okWide Tryz.prog W r b0 43 v) (h : DataW.Trod enc Tryz.prog W 0 (fun _ => true) true 43 v d p) :
    ∃ (s : ByteArray) (A : Option Addr) (c : Nat) (l : List (List P.S50)), v = .agg #[.string s, .slice A l.length c] ∧ l.length ≤ c ∧ Kd.C (Kd.slice 50 P.k50) W A l.length l ∧ ∀ x ∈ l, x.length ≤ 9223372036854775807 := by
  obtain ⟨v0, v1, y0, y1, n, rfl, -, -, h0, h1⟩ := open_agg2 Tryz.underlying43 (by kernel_rfl) cells43 hv h
  obtain ⟨s, e0, _, _⟩ := DataW.trod_string Tryz.underlying9 h0
  obtain ⟨A, c, l, e1, hc, hC, hw⟩ := Mo.slice_open (Kd.slice 50 P.k50) (fun a => a.length ≤ 9223372036854775807) Tryz.underlying41 (by rw [cells48]; rfl) duty_open h1
  simp only [List.cons.injEq, and_true] at e0 e1
  subst e0 e1
  exact ⟨s, A, c, l, rfl, hc, hC, hw⟩
end
theorem names_of_row {W : World} (h : laidMetH Tryz.prog Rows.measureOrdersRow.laid W) : P.GL W := Mo.names_of_head (laidMet.tail h)
set_option maxRecDepth 100000 in
theorem contract (H : Type) (enc : TypeId × Value → H) (W : World) (base : Nat) (args : Array Value) (ds gs : List (DataW H)) (before : List MemPlace)
    (hval0 : ∀ (j : Nat) t v, Tryz.f5.params[j]? = some t → args[j]? = some v → Value.okWide Tryz.prog W .any base t v)
    (hW : DataW.Whole enc Tryz.prog Tryz.f5.params.toList Rows.measureOrdersSpec.vars false W args.toList ds gs before) (hL : laidMetH Tryz.prog Rows.measureOrdersRow.laid W) :
    Calls Tryz.prog 5 args W fun e W' => ∃ v, e = .returned v ∧ Rows.measureOrdersSpec.post enc Tryz.prog Tryz.f5 false true false false W args v { W' with os := W.os } ∧ Later W.os W'.os := by
  have hval : ∀ (j : Nat) t v, Tryz.f5.params[j]? = some t → args[j]? = some v → Value.okWide Tryz.prog W .any base t v := hval0
  have hW' := hW
  obtain ⟨p, q, hA0, hV, rfl, hfz, hnd⟩ := hW
  have hA : DataW.TrodAll enc Tryz.prog W 0 (fun _ => true) true Tryz.f5.params.toList args.toList ds p := hA0
  rw [Tryz.params5] at hA hval
  obtain ⟨v0, vs0, d0, ds0, p0, q0, hargs, rfl, rfl, h0, r0⟩ := trodAll_cons hA
  obtain ⟨v1, vs1, d1, ds1, p1, q1, rfl, rfl, rfl, h1, r1⟩ := trodAll_cons r0
  obtain ⟨v2, vs2, d2, ds2, p2, q2, rfl, rfl, rfl, h2, r2⟩ := trodAll_cons r1
  obtain ⟨rfl, rfl, rfl⟩ := trodAll_nil r2
  obtain rfl : args = #[v0, v1, v2] := by cases args; simp_all
  obtain ⟨rfl, rfl⟩ := trodVars_none hV
  have k0 := h0
  have k1 := h1
  have k2 := h2
  have lt0 : ∀ x ∈ p0, x.block < W.heap.size := by obtain ⟨m, hm⟩ := k0; exact DataW.trod_lt m _ _ _ hm
  have lt1 : ∀ x ∈ p1, x.block < W.heap.size := by obtain ⟨m, hm⟩ := k1; exact DataW.trod_lt m _ _ _ hm
  have lt2 : ∀ x ∈ p2, x.block < W.heap.size := by obtain ⟨m, hm⟩ := k2; exact DataW.trod_lt m _ _ _ hm
  obtain ⟨s0, A0, c0, l0, rfl, hc0, hC0, hw0⟩ := pairing_open (hval 0 43 v0 rfl rfl) h0
  obtain ⟨s1, A1, c1, l1, rfl, hc1, hC1, hw1⟩ := pairing_open (hval 1 43 v1 rfl rfl) h1
  obtain ⟨s2, A2, c2, l2, rfl, hc2, hC2, hw2⟩ := pairing_open (hval 2 43 v2 rfl rfl) h2
  obtain ⟨k, hk⟩ := P.orders_law s0 l0 s1 l1 s2 l2 hC0.2.1 hC1.2.1 hC2.2.1 hw0
  refine (P.pairinglaw15_MeasureOrders.calls k s0 A0 c0 l0 s1 A1 c1 l1 s2 A2 c2 l2 true W (names_of_row hL) hC0 hc0 hC1 hc1 hC2 hc2 hk).mono fun e W' ⟨he, bel⟩ => ?_
  subst he
  have hos := bel.os
  have hWW : ({ W' with os := W.os } : World) = W' := by cases W'; cases hos; rfl
  refine ⟨_, rfl, ?_, by rw [hos]; exact Later.refl _⟩
  rw [hWW]
  exact ⟨_, _, _, [], _, [], hW', trodAll_mk1 (shut_bool Tryz.underlying4 _), (trodAll_cons_mk (Below.trod laidOut (by kernel_rfl) (of_decide_eq_true (by kernel_rfl)) k0 bel lt0) (trodAll_cons_mk (Below.trod laidOut (by kernel_rfl) (of_decide_eq_true (by kernel_rfl)) k1 bel lt1) (trodAll_cons_mk (Below.trod laidOut (by kernel_rfl) (of_decide_eq_true (by kernel_rfl)) k2 bel lt2) trodAll_mk0))), rfl, bel.frame _, fun h => by cases h⟩

def cellsOfStrings (l : List (List UInt8)) : Array Value := (l.map fun s => Value.string ⟨s.toArray⟩).toArray
/-- A world for the witness: the settled one, the listed variables holding what their initialisers lay. -/
def setBlock (h : Array Obj) (i : Nat) (cs : Array Value) : Array Obj := h.modify i fun
  | .cells _ t frozen => .cells cs t frozen
  | o => o
def laidHeap (h : Array Obj) : Array Obj :=
  let h := setBlock h 1 (cellsOfStrings [[108, 101, 103, 115], [104, 101, 97, 100, 115], [116, 121, 112, 101, 115], [98, 108, 111, 99, 107], [115, 112, 97, 110], [110, 105, 103, 104, 116], [108, 111, 110, 103, 101, 115, 116], [115, 104, 111, 114, 116, 101, 115, 116], [115, 104, 105, 102, 116], [115, 116, 97, 114, 116], [101, 110, 100]])
  let h := setBlock h 2 (cellsOfStrings [[114, 101, 115, 116], [110, 105, 103, 104, 116, 115], [104, 111, 109, 101]])
  let h := setBlock h 3 (cellsOfStrings [[100, 117, 116, 105, 101, 115], [108, 101, 103, 115], [104, 101, 97, 100, 115], [100, 97, 121, 115], [98, 108, 111, 99, 107], [115, 112, 97, 110], [99, 114, 101, 100, 105, 116]])
  let h := setBlock h 4 (cellsOfStrings [[97, 110, 100], [111, 114], [110, 111, 116], [105, 109, 112, 108, 105, 101, 115], [105, 110], [116, 111], [116, 114, 117, 101], [102, 97, 108, 115, 101], [109, 105, 110], [109, 97, 120], [105, 102], [116, 104, 101, 110], [101, 108, 115, 101]])
  setBlock h 7 #[.int .i64 1, .int .i64 1, .int .i64 1, .int .i64 1, .int .i64 2, .int .i64 2, .int .i64 2]
noncomputable def laidWorld (os : Os) : World :=
  { World.holding Tryz.prog os ⟨#[], #[], []⟩ with heap := laidHeap (World.holding Tryz.prog os ⟨#[], #[], []⟩).heap }
def wargs : Array Value := #[.agg #[.string ⟨#[]⟩, .slice none 0 0], .agg #[.string ⟨#[]⟩, .slice none 0 0], .agg #[.string ⟨#[]⟩, .slice none 0 0]]
theorem laid_met (os : Os) : laidMet Tryz.prog Rows.measureOrdersRow.laid ((laidWorld os).forCall (fun _ _ => 0) ⟨#[], wargs, []⟩).memory :=
  laidMet_of_run' 8 (by kernel_rfl) (by kernel_rfl)
set_option maxRecDepth 100000 in
theorem lifted (os : Os) (started : os.Started) (H : Type) (enc : TypeId × Value → H) (F : Stop.Interp) :
    ReturnsInHanded { calm := true } Tryz.checked os 5 .any (fun w args => (Rows.measureOrdersSpec.pre enc Tryz.prog Tryz.f5 Rows.measureOrdersRow.domain false w args ∧ laidMetH Tryz.prog Rows.measureOrdersRow.laid w) ∧ sizedMet enc Tryz.prog Tryz.f5 (OpenSpec.ofChange Rows.measureOrdersSpec) false w args)
      ((OpenSpec.ofChange Rows.measureOrdersSpec).postWith enc Tryz.prog Tryz.f5 F (outsideKept [.timePasses]) false true false) := by
  refine returns_of_change (C := Tryz.checked) (X := fun w _ => laidMetH Tryz.prog Rows.measureOrdersRow.laid w) (fun _ _ _ hh h => h.of_heap hh) own started (by kernel_rfl) Tryz.func5
    (witness_at (enc := enc) (C := Tryz.checked) (X := fun w _ => laidMetH Tryz.prog Rows.measureOrdersRow.laid w) (laidWorld os) wargs 8 rfl (World.shaped_of_B (by kernel_rfl) (by kernel_rfl)) (by kernel_rfl) (by kernel_rfl) (by kernel_rfl) (laid_met os)) ?_
  intro W base args ds gs before hval hW _ _ hL _
  exact contract H enc W base args ds gs before hval hW hL

theorem said : Rows.MeasureOrdersSaid :=
  holds_of_wide_time 5 Tryz.f5 rfl rfl rfl rfl rfl rfl rfl ⟨rfl, rfl, rfl, rfl, rfl⟩ rfl rfl rfl rfl rfl (by kernel_rfl) Tryz.func5 (by kernel_rfl)
    (of_decide_eq_true (by kernel_rfl)) (by unfold Func.isWrapper; first | (rw [if_pos (by decide +kernel)]; kernel_rfl) | (rw [if_neg (by decide +kernel)]; exact ⟨rfl, rfl⟩))
    (fun os started H enc _ F => lifted os started H enc F)

/-- No parameter wants a stand-in; the program's own looks are off. -/
theorem plain (f : FuncId) (fn : Func) (hf : Tryz.pinned.checked.prog.funcNamed "pairing/pairinglaw15.MeasureOrders" = some f) (hfn : Tryz.pinned.checked.prog.funcs[f]? = some fn) :
    false = Tryz.pinned.checked.prog.looks [] ∧ ∀ (j : Nat) t, fn.params[j]? = some t → Tryz.pinned.checked.prog.wantsStandIn t = false := by
  obtain rfl : f = 5 := Option.some.inj ((show Tryz.prog.funcNamed "pairing/pairinglaw15.MeasureOrders" = some 5 by kernel_rfl).symm.trans hf) |>.symm
  obtain rfl : fn = Tryz.f5 := (Option.some.inj (Tryz.func5.symm.trans hfn)).symm
  refine ⟨by kernel_rfl, fun j t ht => ?_⟩
  rw [Tryz.params5] at ht
  have := Array.mem_of_getElem? ht
  obtain rfl | rfl | rfl : t = 43 ∨ t = 43 ∨ t = 43 := by simpa using this
  all_goals exact (show Tryz.prog.wantsStandIn 43 = false by kernel_rfl)
theorem card : Rows.MeasureOrdersCardSaid :=
  Claim7.holds_tied_plain_at .later [] _ _ _ _ said (fun _ h => by cases h) (by kernel_rfl) (fun _ h => by cases h) measureOrders_row_tie rfl ⟨rfl, rfl⟩ (by kernel_rfl) rfl plain (by kernel_rfl)
#print axioms card
end Go.Proofs.YtilnppdognejbaaGreatDoor.measureOrders
namespace Go.Proofs.YtilnppdognejbaaGreatDoor
theorem measureOrders_holds : Rows.MeasureOrdersCardSaid := measureOrders.card
end Go.Proofs.YtilnppdognejbaaGreatDoor
