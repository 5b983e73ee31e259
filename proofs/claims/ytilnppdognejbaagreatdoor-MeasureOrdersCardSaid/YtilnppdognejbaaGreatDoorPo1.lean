/- Walks: each Go function named below, called with what its Lean function answers, returns just that; and the words of the print that they use (wip/xprint.py, wip/shrink.py, wip/prune.py over the kit's print; some by hand). Conditions: those in each theorem. -/
import Derived.Test.YtilnppdognejbaaGreatDoorProg
import Derived.Below
import Derived.Deep.Draws
import Derived.Deep.AppendLies
import Derived.Maps.AppendAt
import Derived.OwnWalk
import Derived.Laws.BytesArg
import Derived.Laws.MakeOwn
import Derived.Laws.OwnMore
import Derived.Deep.OwnRows
import Derived.Tactics
import Derived.Lib.ConvBytes
import Derived.Laws.Slices
import Derived.WalkKit
import Derived.KernelRfl
import Derived.RowKit3
import Derived.Deep.LoopGhost
import Derived.Deep.QuietTactic
import Derived.BigQuiet
import Derived.WideLaws
import Derived.Deep.DeepCutAuto
import Derived.Deep.CutBlock
import Derived.Deep.RegionHeld3
import Derived.Laws.Rows
import Derived.Lib.AppendStr
import Derived.ArgAppend
import Derived.Laws.IdiomCopy
import Derived.OrdersHeld
import Derived.Laws.BitsLemmas
import Derived.RowKit
import Derived.Test.YtilnppdognejbaaGreatDoorRows
import Derived.ProofKit
import Derived.OpenShut
import Derived.ShutString
import Derived.ChangeOld
import Derived.SizedLaws
import Derived.Lib.SmallJoins
import Derived.Lib.LaidTab
import Derived.Stop.LaidErr
import Derived.Lib.Bytealg
import Derived.Test.YtilnppdognejbaaGreatDoorPo0
namespace Go.Proofs.YtilnppdognejbaaGreatDoor.P
open Go.RowKit Go.Proofs.YtilnppdognejbaaGreatDoorW.PrintWords Go.Proofs.YtilnppdognejbaaGreatDoorW.PrintLast Go.Proofs.YtilnppdognejbaaGreatDoorW.PrintMore
attribute [local go_sem] max2_int min2_int max_two min_two max_three min_three max_four min_four   -- for this text's walks alone
set_option linter.unusedVariables false
set_option linter.unusedSimpArgs false
def errW : Option Int → Value
  | none => .nilIface
  | some c => .iface 0 (.int .i64 c)
theorem errW_none : errW none = .nilIface := rfl
theorem errW_some (c : Int) : errW (some c) = .iface 0 (.int .i64 c) := rfl
theorem info62 : (Tryz.prog.info? 62).map (fun i => (i.zero, i.size, i.bytes)) = some (some (.agg #[(.string ⟨#[]⟩), (.int .i64 0)]), 2, 24) := by kernel_rfl
theorem info114 : (Tryz.prog.info? 114).map (fun i => (i.zero, i.size, i.bytes)) = some (some (.agg #[(.int .i64 0), (.int .i64 0)]), 2, 16) := by kernel_rfl
theorem info148 : (Tryz.prog.info? 148).map (fun i => (i.zero, i.size, i.bytes)) = some (some (.agg #[(.int .i64 0), (.int .i64 0), (.int .i64 0)]), 3, 24) := by kernel_rfl
structure S62 where
  f0 : ByteArray
  f1 : Int
def z62 : S62 := ⟨(⟨#[]⟩ : ByteArray), (0 : Int)⟩
def k62 : Kd S62 := Kd.iso (Kd.pair Kd.string (Kd.int .i64)) (fun x : S62 => (x.f0, x.f1))
theorem k62_open {w : World} {x : S62} {cs : List Value} (h : k62.K w x cs) : cs = [.string x.f0, .int .i64 x.f1] := by
  obtain ⟨_, _, rfl, rfl, rfl⟩ := h
  exact rfl
theorem k62_openM {w : World} {base : Nat} {ok : Nat → Prop} {x : S62} {cs : List Value} (h : k62.M w base ok x cs) : cs = [.string x.f0, .int .i64 x.f1] := by
  obtain ⟨_, _, rfl, rfl, rfl⟩ := h
  exact rfl
theorem k62_mkM (w : World) (base : Nat) (ok : Nat → Prop) (x : S62)  : k62.M w base ok x [.string x.f0, .int .i64 x.f1] := ⟨[.string x.f0], [.int .i64 x.f1], rfl, rfl, rfl⟩
def rd_T62 (xs : List S62) (i : Int) : S62 := xs.getD i.toNat z62
theorem at_T62 {w : World} {A : Option Addr} {n : Nat} {xs : List S62} (h : Kd.C k62 w A n xs) (i : Int) (h0 : 0 ≤ i) (h1 : i < n) : ∃ ad , A = some ad ∧ w.cell? (ad.add (i.toNat * 2)) = some (.string (rd_T62 xs i).f0) ∧ w.cell? ⟨(ad.add (i.toNat * 2)).block, (ad.add (i.toNat * 2)).off + 1, none⟩ = some (.int .i64 (rd_T62 xs i).f1) := by
  obtain ⟨ad, c, e, _, hK, hc0⟩ := Kd.C_get h z62 i h0 h1
  have hc : ∀ j u, c[j]? = some u → w.cell? (ad.add (i.toNat * 2 + j)) = some u := hc0
  obtain rfl := k62_open hK
  exact ⟨ad, e, hc 0 _ rfl, by rw [← add_field _ _ 1 (by omega)]; exact hc 1 _ rfl⟩
structure S120 where
  f0 : Int
  f1 : Int
def z120 : S120 := ⟨(0 : Int), (0 : Int)⟩
def k120 : Kd S120 := Kd.iso (Kd.pair (Kd.int .i64) (Kd.int .i64)) (fun x : S120 => (x.f0, x.f1))
theorem k120_open {w : World} {x : S120} {cs : List Value} (h : k120.K w x cs) : cs = [.int .i64 x.f0, .int .i64 x.f1] := by
  obtain ⟨_, _, rfl, rfl, rfl⟩ := h
  exact rfl
theorem k120_mkM (w : World) (base : Nat) (ok : Nat → Prop) (x : S120)  : k120.M w base ok x [.int .i64 x.f0, .int .i64 x.f1] := ⟨[.int .i64 x.f0], [.int .i64 x.f1], rfl, rfl, rfl⟩
def rd_T120 (xs : List S120) (i : Int) : S120 := xs.getD i.toNat z120
theorem at_T120 {w : World} {A : Option Addr} {n : Nat} {xs : List S120} (h : Kd.C k120 w A n xs) (i : Int) (h0 : 0 ≤ i) (h1 : i < n) : ∃ ad , A = some ad ∧ w.cell? (ad.add (i.toNat * 2)) = some (.int .i64 (rd_T120 xs i).f0) ∧ w.cell? ⟨(ad.add (i.toNat * 2)).block, (ad.add (i.toNat * 2)).off + 1, none⟩ = some (.int .i64 (rd_T120 xs i).f1) := by
  obtain ⟨ad, c, e, _, hK, hc0⟩ := Kd.C_get h z120 i h0 h1
  have hc : ∀ j u, c[j]? = some u → w.cell? (ad.add (i.toNat * 2 + j)) = some u := hc0
  obtain rfl := k120_open hK
  exact ⟨ad, e, hc 0 _ rfl, by rw [← add_field _ _ 1 (by omega)]; exact hc 1 _ rfl⟩
structure S83 where
  f0 : ByteArray
  f1 : Int
  f2 : (List S120)
def z83 : S83 := ⟨(⟨#[]⟩ : ByteArray), (0 : Int), ([] : List S120)⟩
def k83 : Kd S83 := Kd.iso (Kd.pair Kd.string (Kd.pair (Kd.int .i64) (Kd.slice 120 k120))) (fun x : S83 => (x.f0, x.f1, x.f2))
theorem k83_open {w : World} {x : S83} {cs : List Value} (h : k83.K w x cs) : ∃ A2 c2, cs = [.string x.f0, .int .i64 x.f1, .slice A2 x.f2.length c2] ∧ x.f2.length ≤ c2 ∧ k120.C w A2 x.f2.length x.f2 := by
  obtain ⟨_, _, rfl, rfl, ⟨_, _, rfl, rfl, ⟨A2, c2, rfl, l2, g2⟩⟩⟩ := h
  exact ⟨A2, c2, rfl, l2, g2⟩
theorem k83_mk (w : World) (x : S83) {A2 : Option Addr} {c2 : Nat} (l2 : x.f2.length ≤ c2) (g2 : k120.C w A2 x.f2.length x.f2) : k83.K w x [.string x.f0, .int .i64 x.f1, .slice A2 x.f2.length c2] := ⟨[.string x.f0], [.int .i64 x.f1, .slice A2 x.f2.length c2], rfl, rfl, ⟨[.int .i64 x.f1], [.slice A2 x.f2.length c2], rfl, rfl, ⟨A2, c2, rfl, l2, g2⟩⟩⟩
theorem k83_mkF (W : World) (ok : Nat → Prop) (x : S83) {A2 : Option Addr} {c2 : Nat} (l2 : x.f2.length ≤ c2) (g2 : Kd.F k120 W ok A2 x.f2.length x.f2) : Kd.FK k83 W ok x [.string x.f0, .int .i64 x.f1, .slice A2 x.f2.length c2] := fun W2 hW => k83_mk W2 x l2 (g2 W2 hW)
def rd_T83 (xs : List S83) (i : Int) : S83 := xs.getD i.toNat z83
theorem at_T83 {w : World} {A : Option Addr} {n : Nat} {xs : List S83} (h : Kd.C k83 w A n xs) (i : Int) (h0 : 0 ≤ i) (h1 : i < n) : ∃ ad A2 c2, A = some ad ∧ w.cell? (ad.add (i.toNat * 3)) = some (.string (rd_T83 xs i).f0) ∧ w.cell? ⟨(ad.add (i.toNat * 3)).block, (ad.add (i.toNat * 3)).off + 1, none⟩ = some (.int .i64 (rd_T83 xs i).f1) ∧ w.cell? ⟨(ad.add (i.toNat * 3)).block, (ad.add (i.toNat * 3)).off + 2, none⟩ = some (.slice A2 (rd_T83 xs i).f2.length c2) ∧ (rd_T83 xs i).f2.length ≤ c2 ∧ k120.C w A2 (rd_T83 xs i).f2.length (rd_T83 xs i).f2 := by
  obtain ⟨ad, c, e, _, hK, hc0⟩ := Kd.C_get h z83 i h0 h1
  have hc : ∀ j u, c[j]? = some u → w.cell? (ad.add (i.toNat * 3 + j)) = some u := hc0
  obtain ⟨A2, c2, rfl, l2, g2⟩ := k83_open hK
  exact ⟨ad, A2, c2, e, hc 0 _ rfl, by rw [← add_field _ _ 1 (by omega)]; exact hc 1 _ rfl, by rw [← add_field _ _ 2 (by omega)]; exact hc 2 _ rfl, l2, g2⟩
structure S86 where
  f0 : ByteArray
  f1 : ByteArray
def z86 : S86 := ⟨(⟨#[]⟩ : ByteArray), (⟨#[]⟩ : ByteArray)⟩
def k86 : Kd S86 := Kd.iso (Kd.pair Kd.string Kd.string) (fun x : S86 => (x.f0, x.f1))
theorem k86_open {w : World} {x : S86} {cs : List Value} (h : k86.K w x cs) : cs = [.string x.f0, .string x.f1] := by
  obtain ⟨_, _, rfl, rfl, rfl⟩ := h
  exact rfl
theorem k86_mkM (w : World) (base : Nat) (ok : Nat → Prop) (x : S86)  : k86.M w base ok x [.string x.f0, .string x.f1] := ⟨[.string x.f0], [.string x.f1], rfl, rfl, rfl⟩
def rd_T86 (xs : List S86) (i : Int) : S86 := xs.getD i.toNat z86
theorem at_T86 {w : World} {A : Option Addr} {n : Nat} {xs : List S86} (h : Kd.C k86 w A n xs) (i : Int) (h0 : 0 ≤ i) (h1 : i < n) : ∃ ad , A = some ad ∧ w.cell? (ad.add (i.toNat * 2)) = some (.string (rd_T86 xs i).f0) ∧ w.cell? ⟨(ad.add (i.toNat * 2)).block, (ad.add (i.toNat * 2)).off + 1, none⟩ = some (.string (rd_T86 xs i).f1) := by
  obtain ⟨ad, c, e, _, hK, hc0⟩ := Kd.C_get h z86 i h0 h1
  have hc : ∀ j u, c[j]? = some u → w.cell? (ad.add (i.toNat * 2 + j)) = some u := hc0
  obtain rfl := k86_open hK
  exact ⟨ad, e, hc 0 _ rfl, by rw [← add_field _ _ 1 (by omega)]; exact hc 1 _ rfl⟩
structure S71 where
  f0 : Int
  f1 : Int
  f2 : Int
def z71 : S71 := ⟨(0 : Int), (0 : Int), (0 : Int)⟩
def k71 : Kd S71 := Kd.iso (Kd.pair (Kd.int .i64) (Kd.pair (Kd.int .i64) (Kd.int .i64))) (fun x : S71 => (x.f0, x.f1, x.f2))
theorem k71_open {w : World} {x : S71} {cs : List Value} (h : k71.K w x cs) : cs = [.int .i64 x.f0, .int .i64 x.f1, .int .i64 x.f2] := by
  obtain ⟨_, _, rfl, rfl, ⟨_, _, rfl, rfl, rfl⟩⟩ := h
  exact rfl
theorem k71_mkM (w : World) (base : Nat) (ok : Nat → Prop) (x : S71)  : k71.M w base ok x [.int .i64 x.f0, .int .i64 x.f1, .int .i64 x.f2] := ⟨[.int .i64 x.f0], [.int .i64 x.f1, .int .i64 x.f2], rfl, rfl, ⟨[.int .i64 x.f1], [.int .i64 x.f2], rfl, rfl, rfl⟩⟩
structure S73 where
  f0 : ByteArray
  f1 : ByteArray
  f2 : ByteArray
  f3 : Int
  f4 : Int
  f5 : ByteArray
  f6 : S71
def z73 : S73 := ⟨(⟨#[]⟩ : ByteArray), (⟨#[]⟩ : ByteArray), (⟨#[]⟩ : ByteArray), (0 : Int), (0 : Int), (⟨#[]⟩ : ByteArray), z71⟩
def k73 : Kd S73 := Kd.iso (Kd.pair Kd.string (Kd.pair Kd.string (Kd.pair Kd.string (Kd.pair (Kd.int .i64) (Kd.pair (Kd.int .i64) (Kd.pair Kd.string k71)))))) (fun x : S73 => (x.f0, x.f1, x.f2, x.f3, x.f4, x.f5, x.f6))
theorem k73_open {w : World} {x : S73} {cs : List Value} (h : k73.K w x cs) : cs = [.string x.f0, .string x.f1, .string x.f2, .int .i64 x.f3, .int .i64 x.f4, .string x.f5, .int .i64 x.f6.f0, .int .i64 x.f6.f1, .int .i64 x.f6.f2] := by
  obtain ⟨_, _, rfl, rfl, ⟨_, _, rfl, rfl, ⟨_, _, rfl, rfl, ⟨_, _, rfl, rfl, ⟨_, _, rfl, rfl, ⟨_, _, rfl, rfl, s6⟩⟩⟩⟩⟩⟩ := h
  obtain rfl := k71_open s6
  exact rfl
theorem k73_mkM (w : World) (base : Nat) (ok : Nat → Prop) (x : S73)  : k73.M w base ok x [.string x.f0, .string x.f1, .string x.f2, .int .i64 x.f3, .int .i64 x.f4, .string x.f5, .int .i64 x.f6.f0, .int .i64 x.f6.f1, .int .i64 x.f6.f2] := ⟨[.string x.f0], [.string x.f1, .string x.f2, .int .i64 x.f3, .int .i64 x.f4, .string x.f5, .int .i64 x.f6.f0, .int .i64 x.f6.f1, .int .i64 x.f6.f2], rfl, rfl, ⟨[.string x.f1], [.string x.f2, .int .i64 x.f3, .int .i64 x.f4, .string x.f5, .int .i64 x.f6.f0, .int .i64 x.f6.f1, .int .i64 x.f6.f2], rfl, rfl, ⟨[.string x.f2], [.int .i64 x.f3, .int .i64 x.f4, .string x.f5, .int .i64 x.f6.f0, .int .i64 x.f6.f1, .int .i64 x.f6.f2], rfl, rfl, ⟨[.int .i64 x.f3], [.int .i64 x.f4, .string x.f5, .int .i64 x.f6.f0, .int .i64 x.f6.f1, .int .i64 x.f6.f2], rfl, rfl, ⟨[.int .i64 x.f4], [.string x.f5, .int .i64 x.f6.f0, .int .i64 x.f6.f1, .int .i64 x.f6.f2], rfl, rfl, ⟨[.string x.f5], [.int .i64 x.f6.f0, .int .i64 x.f6.f1, .int .i64 x.f6.f2], rfl, rfl, (k71_mkM w base ok x.f6 )⟩⟩⟩⟩⟩⟩
def rd_T73 (xs : List S73) (i : Int) : S73 := xs.getD i.toNat z73
theorem at_T73 {w : World} {A : Option Addr} {n : Nat} {xs : List S73} (h : Kd.C k73 w A n xs) (i : Int) (h0 : 0 ≤ i) (h1 : i < n) : ∃ ad , A = some ad ∧ w.cell? (ad.add (i.toNat * 9)) = some (.string (rd_T73 xs i).f0) ∧ w.cell? ⟨(ad.add (i.toNat * 9)).block, (ad.add (i.toNat * 9)).off + 1, none⟩ = some (.string (rd_T73 xs i).f1) ∧ w.cell? ⟨(ad.add (i.toNat * 9)).block, (ad.add (i.toNat * 9)).off + 2, none⟩ = some (.string (rd_T73 xs i).f2) ∧ w.cell? ⟨(ad.add (i.toNat * 9)).block, (ad.add (i.toNat * 9)).off + 3, none⟩ = some (.int .i64 (rd_T73 xs i).f3) ∧ w.cell? ⟨(ad.add (i.toNat * 9)).block, (ad.add (i.toNat * 9)).off + 4, none⟩ = some (.int .i64 (rd_T73 xs i).f4) ∧ w.cell? ⟨(ad.add (i.toNat * 9)).block, (ad.add (i.toNat * 9)).off + 5, none⟩ = some (.string (rd_T73 xs i).f5) ∧ w.cell? ⟨(ad.add (i.toNat * 9)).block, (ad.add (i.toNat * 9)).off + 6, none⟩ = some (.int .i64 (rd_T73 xs i).f6.f0) ∧ w.cell? ⟨(ad.add (i.toNat * 9)).block, (ad.add (i.toNat * 9)).off + 7, none⟩ = some (.int .i64 (rd_T73 xs i).f6.f1) ∧ w.cell? ⟨(ad.add (i.toNat * 9)).block, (ad.add (i.toNat * 9)).off + 8, none⟩ = some (.int .i64 (rd_T73 xs i).f6.f2) := by
  obtain ⟨ad, c, e, _, hK, hc0⟩ := Kd.C_get h z73 i h0 h1
  have hc : ∀ j u, c[j]? = some u → w.cell? (ad.add (i.toNat * 9 + j)) = some u := hc0
  obtain rfl := k73_open hK
  exact ⟨ad, e, hc 0 _ rfl, by rw [← add_field _ _ 1 (by omega)]; exact hc 1 _ rfl, by rw [← add_field _ _ 2 (by omega)]; exact hc 2 _ rfl, by rw [← add_field _ _ 3 (by omega)]; exact hc 3 _ rfl, by rw [← add_field _ _ 4 (by omega)]; exact hc 4 _ rfl, by rw [← add_field _ _ 5 (by omega)]; exact hc 5 _ rfl, by rw [← add_field _ _ 6 (by omega)]; exact hc 6 _ rfl, by rw [← add_field _ _ 7 (by omega)]; exact hc 7 _ rfl, by rw [← add_field _ _ 8 (by omega)]; exact hc 8 _ rfl⟩
structure S103 where
  f0 : Int
  f1 : Int
  f2 : ByteArray
  f3 : (List S103)
def F103 (d : Kd S103) : Kd S103 := Kd.iso (Kd.pair (Kd.int .i64) (Kd.pair (Kd.int .i64) (Kd.pair Kd.string (Kd.slice 103 d)))) (fun x : S103 => (x.f0, x.f1, x.f2, x.f3))
theorem sub103 : Kd.Sub F103 [103] := Kd.sub_iso _ (Kd.sub_pair (Kd.sub_const _ (by decide)) (Kd.sub_pair (Kd.sub_const _ (by decide)) (Kd.sub_pair (Kd.sub_const _ (by decide)) (Kd.sub_slice 103 (by decide) Kd.sub_id))))
theorem sz103 : ∀ n, (Kd.upto F103 4 [103] n).sz = 4 := Kd.upto_sz (fun _ => rfl)
def k103 : Kd S103 := Kd.fix F103 4 [103] sz103 (Kd.upto_E sub103)
structure S105 where
  f0 : ByteArray
  f1 : S103
def k105 : Kd S105 := Kd.iso (Kd.pair Kd.string k103) (fun x : S105 => (x.f0, x.f1))
structure S107 where
  f0 : Int
  f1 : ByteArray
  f2 : S103
def k107 : Kd S107 := Kd.iso (Kd.pair (Kd.int .i64) (Kd.pair Kd.string k103)) (fun x : S107 => (x.f0, x.f1, x.f2))
structure S109 where
  f0 : Int
  f1 : S103
def k109 : Kd S109 := Kd.iso (Kd.pair (Kd.int .i64) k103) (fun x : S109 => (x.f0, x.f1))
structure S154 where
  f0 : ByteArray
  f1 : ByteArray
  f2 : Int
  f3 : Int
def k154 : Kd S154 := Kd.iso (Kd.pair Kd.string (Kd.pair Kd.string (Kd.pair (Kd.int .i64) (Kd.int .i64)))) (fun x : S154 => (x.f0, x.f1, x.f2, x.f3))
structure S161 where
  f0 : ByteArray
  f1 : Int
  f2 : Int
def k161 : Kd S161 := Kd.iso (Kd.pair Kd.string (Kd.pair (Kd.int .i64) (Kd.int .i64))) (fun x : S161 => (x.f0, x.f1, x.f2))
structure S40 where
  f0 : Int
  f1 : Int
  f2 : Int
  f3 : Int
  f4 : Int
  f5 : Int
  f6 : Int
  f7 : (List S105)
  f8 : (List S107)
  f9 : (List S109)
  f10 : (List S103)
  f11 : (List S154)
  f12 : (List S161)
  f13 : Int
structure S32 where
  f0 : (List S83)
  f1 : (List S86)
  f2 : (List S73)
structure S50 where
  f0 : Int
  f1 : Bool
def z50 : S50 := ⟨(0 : Int), false⟩
def k50 : Kd S50 := Kd.iso (Kd.pair (Kd.int .i64) Kd.bool) (fun x : S50 => (x.f0, x.f1))
theorem k50_open {w : World} {x : S50} {cs : List Value} (h : k50.K w x cs) : cs = [.int .i64 x.f0, .bool x.f1] := by
  obtain ⟨_, _, rfl, rfl, rfl⟩ := h
  exact rfl
theorem k50_mk (w : World) (x : S50)  : k50.K w x [.int .i64 x.f0, .bool x.f1] := ⟨[.int .i64 x.f0], [.bool x.f1], rfl, rfl, rfl⟩
theorem k50_mkM (w : World) (base : Nat) (ok : Nat → Prop) (x : S50)  : k50.M w base ok x [.int .i64 x.f0, .bool x.f1] := ⟨[.int .i64 x.f0], [.bool x.f1], rfl, rfl, rfl⟩
def rd_T50 (xs : List S50) (i : Int) : S50 := xs.getD i.toNat z50
theorem at_T50 {w : World} {A : Option Addr} {n : Nat} {xs : List S50} (h : Kd.C k50 w A n xs) (i : Int) (h0 : 0 ≤ i) (h1 : i < n) : ∃ ad , A = some ad ∧ w.cell? (ad.add (i.toNat * 2)) = some (.int .i64 (rd_T50 xs i).f0) ∧ w.cell? ⟨(ad.add (i.toNat * 2)).block, (ad.add (i.toNat * 2)).off + 1, none⟩ = some (.bool (rd_T50 xs i).f1) := by
  obtain ⟨ad, c, e, _, hK, hc0⟩ := Kd.C_get h z50 i h0 h1
  have hc : ∀ j u, c[j]? = some u → w.cell? (ad.add (i.toNat * 2 + j)) = some u := hc0
  obtain rfl := k50_open hK
  exact ⟨ad, e, hc 0 _ rfl, by rw [← add_field _ _ 1 (by omega)]; exact hc 1 _ rfl⟩
def rd_L31 (xs : List (List S50)) (i : Int) : (List S50) := xs.getD i.toNat ([] : List S50)
theorem at_L31 {w : World} {A : Option Addr} {n : Nat} {xs : List (List S50)} (h : Kd.C (Kd.slice 50 k50) w A n xs) (i : Int) (h0 : 0 ≤ i) (h1 : i < n) : ∃ ad A0 c0, A = some ad ∧ w.cell? (ad.add i.toNat) = some (.slice A0 (rd_L31 xs i).length c0) ∧ (rd_L31 xs i).length ≤ c0 ∧ k50.C w A0 (rd_L31 xs i).length (rd_L31 xs i) := by
  obtain ⟨ad, c, e, _, hK, hc0⟩ := Kd.C_get h ([] : List S50) i h0 h1
  have hc : ∀ j u, c[j]? = some u → w.cell? (ad.add (i.toNat * 1 + j)) = some u := hc0
  obtain ⟨A0, c0, rfl, l0, g0⟩ := hK
  exact ⟨ad, A0, c0, e, by have hq := hc 0 _ rfl; rwa [Nat.mul_one, Nat.add_zero] at hq, l0, g0⟩
structure S126 where
  f0 : Int
  f1 : Int
  f2 : Int
  f3 : Int
  f4 : Int
  f5 : (List ByteArray)
structure S114 where
  f0 : Int
  f1 : Int
def z114 : S114 := ⟨(0 : Int), (0 : Int)⟩
def k114 : Kd S114 := Kd.iso (Kd.pair (Kd.int .i64) (Kd.int .i64)) (fun x : S114 => (x.f0, x.f1))
theorem k114_open {w : World} {x : S114} {cs : List Value} (h : k114.K w x cs) : cs = [.int .i64 x.f0, .int .i64 x.f1] := by
  obtain ⟨_, _, rfl, rfl, rfl⟩ := h
  exact rfl
theorem k114_openM {w : World} {base : Nat} {ok : Nat → Prop} {x : S114} {cs : List Value} (h : k114.M w base ok x cs) : cs = [.int .i64 x.f0, .int .i64 x.f1] := by
  obtain ⟨_, _, rfl, rfl, rfl⟩ := h
  exact rfl
theorem k114_mkM (w : World) (base : Nat) (ok : Nat → Prop) (x : S114)  : k114.M w base ok x [.int .i64 x.f0, .int .i64 x.f1] := ⟨[.int .i64 x.f0], [.int .i64 x.f1], rfl, rfl, rfl⟩
def rd_T114 (xs : List S114) (i : Int) : S114 := xs.getD i.toNat z114
theorem at_T114 {w : World} {A : Option Addr} {n : Nat} {xs : List S114} (h : Kd.C k114 w A n xs) (i : Int) (h0 : 0 ≤ i) (h1 : i < n) : ∃ ad , A = some ad ∧ w.cell? (ad.add (i.toNat * 2)) = some (.int .i64 (rd_T114 xs i).f0) ∧ w.cell? ⟨(ad.add (i.toNat * 2)).block, (ad.add (i.toNat * 2)).off + 1, none⟩ = some (.int .i64 (rd_T114 xs i).f1) := by
  obtain ⟨ad, c, e, _, hK, hc0⟩ := Kd.C_get h z114 i h0 h1
  have hc : ∀ j u, c[j]? = some u → w.cell? (ad.add (i.toNat * 2 + j)) = some u := hc0
  obtain rfl := k114_open hK
  exact ⟨ad, e, hc 0 _ rfl, by rw [← add_field _ _ 1 (by omega)]; exact hc 1 _ rfl⟩
structure S148 where
  f0 : Int
  f1 : Int
  f2 : Int
def z148 : S148 := ⟨(0 : Int), (0 : Int), (0 : Int)⟩
def k148 : Kd S148 := Kd.iso (Kd.pair (Kd.int .i64) (Kd.pair (Kd.int .i64) (Kd.int .i64))) (fun x : S148 => (x.f0, x.f1, x.f2))
theorem k148_open {w : World} {x : S148} {cs : List Value} (h : k148.K w x cs) : cs = [.int .i64 x.f0, .int .i64 x.f1, .int .i64 x.f2] := by
  obtain ⟨_, _, rfl, rfl, ⟨_, _, rfl, rfl, rfl⟩⟩ := h
  exact rfl
theorem k148_mkM (w : World) (base : Nat) (ok : Nat → Prop) (x : S148)  : k148.M w base ok x [.int .i64 x.f0, .int .i64 x.f1, .int .i64 x.f2] := ⟨[.int .i64 x.f0], [.int .i64 x.f1, .int .i64 x.f2], rfl, rfl, ⟨[.int .i64 x.f1], [.int .i64 x.f2], rfl, rfl, rfl⟩⟩
def rd_T148 (xs : List S148) (i : Int) : S148 := xs.getD i.toNat z148
theorem at_T148 {w : World} {A : Option Addr} {n : Nat} {xs : List S148} (h : Kd.C k148 w A n xs) (i : Int) (h0 : 0 ≤ i) (h1 : i < n) : ∃ ad , A = some ad ∧ w.cell? (ad.add (i.toNat * 3)) = some (.int .i64 (rd_T148 xs i).f0) ∧ w.cell? ⟨(ad.add (i.toNat * 3)).block, (ad.add (i.toNat * 3)).off + 1, none⟩ = some (.int .i64 (rd_T148 xs i).f1) ∧ w.cell? ⟨(ad.add (i.toNat * 3)).block, (ad.add (i.toNat * 3)).off + 2, none⟩ = some (.int .i64 (rd_T148 xs i).f2) := by
  obtain ⟨ad, c, e, _, hK, hc0⟩ := Kd.C_get h z148 i h0 h1
  have hc : ∀ j u, c[j]? = some u → w.cell? (ad.add (i.toNat * 3 + j)) = some u := hc0
  obtain rfl := k148_open hK
  exact ⟨ad, e, hc 0 _ rfl, by rw [← add_field _ _ 1 (by omega)]; exact hc 1 _ rfl, by rw [← add_field _ _ 2 (by omega)]; exact hc 2 _ rfl⟩
theorem bl_gtr : ∀ (x y : List UInt8), (!(Op.bytesLess x y || x == y)) = Op.bytesLess y x
  | [], [] => by simp [Op.bytesLess]
  | _ :: _, [] => by simp [Op.bytesLess]
  | [], _ :: _ => by simp [Op.bytesLess]
  | a :: x, b :: y => by
    have ih := bl_gtr x y
    simp only [Op.bytesLess, List.cons_beq_cons]
    rw [← ih]
    by_cases h1 : a < b
    · have h2 : ¬ b < a := fun h => by rw [UInt8.lt_iff_toNat_lt] at h h1; omega
      have h3 : ¬ b = a := fun h => by subst h; exact absurd h1 (by rw [UInt8.lt_iff_toNat_lt]; omega)
      simp [h1, h2, h3]
    · by_cases h4 : a = b
      · subst h4
        simp [h1]
      · have h2 : b < a := by
          rw [UInt8.lt_iff_toNat_lt] at h1 ⊢
          have h5 : a.toNat ≠ b.toNat := fun h => h4 (UInt8.toNat_inj.mp h)
          omega
        simp [h1, h2, h4]
theorem binOp_string_gtr (t : TypeId) (a b : ByteArray) : binOp .gtr t (.string a) (.string b) = pure (.bool (Op.bytesLess b.toList a.toList)) := by
  rw [← bl_gtr]
  simp [binOp, Op.stringOp]
theorem bk {w0 w : World} {g : Nat} {o : Obj} (_ : w0.heap[g]? = some o) (h : w.heap[g]? = some o := by with_reducible repeat (first | exact Aside0.out (by assumption) | refine blk_drewN ?_ _ | refine blk_drew ?_ | refine blk_alloc ?_ _ | refine blk_far ?_ (Aside0.out (by assumption)) _)) : w.heap[g]? = some o := h
theorem hbk {P : Prop} (h : P := by repeat (first | (with_reducible first | exact HB.out | apply below_alloc | apply pw_below_drewN | apply below_drew1 | refine below_set ?_ (Aside0.out (by assumption))) | exact HB.out)) : P := h
theorem hbb {P : Prop} (h : P := by with_reducible repeat (first | exact Aside0.out (by assumption) | refine blk_drewN ?_ _ | refine blk_drew ?_ | refine blk_alloc ?_ _ | refine blk_far ?_ (Aside0.out (by assumption)) _)) : P := h
theorem hro {P : Prop} (h : P := by with_reducible repeat (first | exact Aside0.out (by assumption) | apply Kd.R_alloc | apply Kd.R_drewN | apply Kd.R_drew)) : P := h
theorem blk_belowB {w0 w w1 : World} {g : Nat} {o : Obj} (_ : w0.heap[g]? = some o) (hb : Below w.heap.size w w1) (h : w.heap[g]? = some o := by with_reducible repeat (first | exact Aside0.out (by assumption) | refine blk_drewN ?_ _ | refine blk_drew ?_ | refine blk_alloc ?_ _ | refine blk_far ?_ (Aside0.out (by assumption)) _)) : w1.heap[g]? = some o := blk_below h hb
theorem blk_ltB {w0 w : World} {g : Nat} {o : Obj} (_ : w0.heap[g]? = some o) (h : w.heap[g]? = some o := by with_reducible repeat (first | exact Aside0.out (by assumption) | refine blk_drewN ?_ _ | refine blk_drew ?_ | refine blk_alloc ?_ _ | refine blk_far ?_ (Aside0.out (by assumption)) _)) : g < w.heap.size := blk_lt h
theorem R_belowB {α : Type} {d : Kd α} {e : TypeId} {w0 w w1 : World} {base : Nat} {ok : Nat → Prop} {v : Value} {xs : List α} (_ : d.R e w0 base ok v xs) (hb : Below w.heap.size w w1) (h : d.R e w base ok v xs := by with_reducible repeat (first | exact Aside0.out (by assumption) | apply Kd.R_alloc | apply Kd.R_drewN | apply Kd.R_drew)) : d.R e w1 base ok v xs := Kd.R_below h hb
theorem held_of2 {S : World → Prop} {w w' : World} {g g' : Nat} {o o' : Obj} (_ : w.heap[g]? = some o) (_ : w'.heap[g']? = some o') (h : ∀ X : World, X.heap[g]? = some o → X.heap[g']? = some o' → S X) : ∀ X : World, X.heap[g]? = some o → X.heap[g']? = some o' → S X := h
theorem held_of3 {S : World → Prop} {w w' w'' : World} {g g' g'' : Nat} {o o' o'' : Obj} (_ : w.heap[g]? = some o) (_ : w'.heap[g']? = some o') (_ : w''.heap[g'']? = some o'') (h : ∀ X : World, X.heap[g]? = some o → X.heap[g']? = some o' → X.heap[g'']? = some o'' → S X) : ∀ X : World, X.heap[g]? = some o → X.heap[g']? = some o' → X.heap[g'']? = some o'' → S X := h
theorem blk_fs2 {w : World} {g : Nat} {t : TypeId} {cs : Array Value} (h : w.heap[g]? = some (.cells cs t (0, 0))) : w.frozen? ⟨g, 0, none⟩ = false ∧ w.frozen? ⟨g, 1, none⟩ = false := ⟨blk_frozen h 0, blk_frozen h 1⟩
theorem blk_cs2 {w : World} {g : Nat} {t : TypeId} {v0 v1 : Value} (h : w.heap[g]? = some (.cells #[v0, v1] t (0, 0))) : w.cell? ⟨g, 0, none⟩ = some v0 ∧ w.cell? ⟨g, 1, none⟩ = some v1 := ⟨(blk_cell h 0).trans rfl, (blk_cell h 1).trans rfl⟩
theorem blk_fs3 {w : World} {g : Nat} {t : TypeId} {cs : Array Value} (h : w.heap[g]? = some (.cells cs t (0, 0))) : w.frozen? ⟨g, 0, none⟩ = false ∧ w.frozen? ⟨g, 1, none⟩ = false ∧ w.frozen? ⟨g, 2, none⟩ = false := ⟨blk_frozen h 0, blk_frozen h 1, blk_frozen h 2⟩
theorem blk_cs3 {w : World} {g : Nat} {t : TypeId} {v0 v1 v2 : Value} (h : w.heap[g]? = some (.cells #[v0, v1, v2] t (0, 0))) : w.cell? ⟨g, 0, none⟩ = some v0 ∧ w.cell? ⟨g, 1, none⟩ = some v1 ∧ w.cell? ⟨g, 2, none⟩ = some v2 := ⟨(blk_cell h 0).trans rfl, (blk_cell h 1).trans rfl, (blk_cell h 2).trans rfl⟩
theorem blk_fs6 {w : World} {g : Nat} {t : TypeId} {cs : Array Value} (h : w.heap[g]? = some (.cells cs t (0, 0))) : w.frozen? ⟨g, 0, none⟩ = false ∧ w.frozen? ⟨g, 1, none⟩ = false ∧ w.frozen? ⟨g, 2, none⟩ = false ∧ w.frozen? ⟨g, 3, none⟩ = false ∧ w.frozen? ⟨g, 4, none⟩ = false ∧ w.frozen? ⟨g, 5, none⟩ = false := ⟨blk_frozen h 0, blk_frozen h 1, blk_frozen h 2, blk_frozen h 3, blk_frozen h 4, blk_frozen h 5⟩
theorem blk_cs6 {w : World} {g : Nat} {t : TypeId} {v0 v1 v2 v3 v4 v5 : Value} (h : w.heap[g]? = some (.cells #[v0, v1, v2, v3, v4, v5] t (0, 0))) : w.cell? ⟨g, 0, none⟩ = some v0 ∧ w.cell? ⟨g, 1, none⟩ = some v1 ∧ w.cell? ⟨g, 2, none⟩ = some v2 ∧ w.cell? ⟨g, 3, none⟩ = some v3 ∧ w.cell? ⟨g, 4, none⟩ = some v4 ∧ w.cell? ⟨g, 5, none⟩ = some v5 := ⟨(blk_cell h 0).trans rfl, (blk_cell h 1).trans rfl, (blk_cell h 2).trans rfl, (blk_cell h 3).trans rfl, (blk_cell h 4).trans rfl, (blk_cell h 5).trans rfl⟩
theorem blk_fs9 {w : World} {g : Nat} {t : TypeId} {cs : Array Value} (h : w.heap[g]? = some (.cells cs t (0, 0))) : w.frozen? ⟨g, 0, none⟩ = false ∧ w.frozen? ⟨g, 1, none⟩ = false ∧ w.frozen? ⟨g, 2, none⟩ = false ∧ w.frozen? ⟨g, 3, none⟩ = false ∧ w.frozen? ⟨g, 4, none⟩ = false ∧ w.frozen? ⟨g, 5, none⟩ = false ∧ w.frozen? ⟨g, 6, none⟩ = false ∧ w.frozen? ⟨g, 7, none⟩ = false ∧ w.frozen? ⟨g, 8, none⟩ = false := ⟨blk_frozen h 0, blk_frozen h 1, blk_frozen h 2, blk_frozen h 3, blk_frozen h 4, blk_frozen h 5, blk_frozen h 6, blk_frozen h 7, blk_frozen h 8⟩
theorem blk_cs9 {w : World} {g : Nat} {t : TypeId} {v0 v1 v2 v3 v4 v5 v6 v7 v8 : Value} (h : w.heap[g]? = some (.cells #[v0, v1, v2, v3, v4, v5, v6, v7, v8] t (0, 0))) : w.cell? ⟨g, 0, none⟩ = some v0 ∧ w.cell? ⟨g, 1, none⟩ = some v1 ∧ w.cell? ⟨g, 2, none⟩ = some v2 ∧ w.cell? ⟨g, 3, none⟩ = some v3 ∧ w.cell? ⟨g, 4, none⟩ = some v4 ∧ w.cell? ⟨g, 5, none⟩ = some v5 ∧ w.cell? ⟨g, 6, none⟩ = some v6 ∧ w.cell? ⟨g, 7, none⟩ = some v7 ∧ w.cell? ⟨g, 8, none⟩ = some v8 := ⟨(blk_cell h 0).trans rfl, (blk_cell h 1).trans rfl, (blk_cell h 2).trans rfl, (blk_cell h 3).trans rfl, (blk_cell h 4).trans rfl, (blk_cell h 5).trans rfl, (blk_cell h 6).trans rfl, (blk_cell h 7).trans rfl, (blk_cell h 8).trans rfl⟩
theorem blk_fs14 {w : World} {g : Nat} {t : TypeId} {cs : Array Value} (h : w.heap[g]? = some (.cells cs t (0, 0))) : w.frozen? ⟨g, 0, none⟩ = false ∧ w.frozen? ⟨g, 1, none⟩ = false ∧ w.frozen? ⟨g, 2, none⟩ = false ∧ w.frozen? ⟨g, 3, none⟩ = false ∧ w.frozen? ⟨g, 4, none⟩ = false ∧ w.frozen? ⟨g, 5, none⟩ = false ∧ w.frozen? ⟨g, 6, none⟩ = false ∧ w.frozen? ⟨g, 7, none⟩ = false ∧ w.frozen? ⟨g, 8, none⟩ = false ∧ w.frozen? ⟨g, 9, none⟩ = false ∧ w.frozen? ⟨g, 10, none⟩ = false ∧ w.frozen? ⟨g, 11, none⟩ = false ∧ w.frozen? ⟨g, 12, none⟩ = false ∧ w.frozen? ⟨g, 13, none⟩ = false := ⟨blk_frozen h 0, blk_frozen h 1, blk_frozen h 2, blk_frozen h 3, blk_frozen h 4, blk_frozen h 5, blk_frozen h 6, blk_frozen h 7, blk_frozen h 8, blk_frozen h 9, blk_frozen h 10, blk_frozen h 11, blk_frozen h 12, blk_frozen h 13⟩
theorem blk_cs14 {w : World} {g : Nat} {t : TypeId} {v0 v1 v2 v3 v4 v5 v6 v7 v8 v9 v10 v11 v12 v13 : Value} (h : w.heap[g]? = some (.cells #[v0, v1, v2, v3, v4, v5, v6, v7, v8, v9, v10, v11, v12, v13] t (0, 0))) : w.cell? ⟨g, 0, none⟩ = some v0 ∧ w.cell? ⟨g, 1, none⟩ = some v1 ∧ w.cell? ⟨g, 2, none⟩ = some v2 ∧ w.cell? ⟨g, 3, none⟩ = some v3 ∧ w.cell? ⟨g, 4, none⟩ = some v4 ∧ w.cell? ⟨g, 5, none⟩ = some v5 ∧ w.cell? ⟨g, 6, none⟩ = some v6 ∧ w.cell? ⟨g, 7, none⟩ = some v7 ∧ w.cell? ⟨g, 8, none⟩ = some v8 ∧ w.cell? ⟨g, 9, none⟩ = some v9 ∧ w.cell? ⟨g, 10, none⟩ = some v10 ∧ w.cell? ⟨g, 11, none⟩ = some v11 ∧ w.cell? ⟨g, 12, none⟩ = some v12 ∧ w.cell? ⟨g, 13, none⟩ = some v13 := ⟨(blk_cell h 0).trans rfl, (blk_cell h 1).trans rfl, (blk_cell h 2).trans rfl, (blk_cell h 3).trans rfl, (blk_cell h 4).trans rfl, (blk_cell h 5).trans rfl, (blk_cell h 6).trans rfl, (blk_cell h 7).trans rfl, (blk_cell h 8).trans rfl, (blk_cell h 9).trans rfl, (blk_cell h 10).trans rfl, (blk_cell h 11).trans rfl, (blk_cell h 12).trans rfl, (blk_cell h 13).trans rfl⟩
theorem hrf {P : Prop} (h : P := by first | rfl | (simp [errW_none, errW_some] <;> rfl) | (simp [*, errW_none, errW_some] <;> rfl)) : P := h
theorem hgl {P : Prop} (h : P := by (try simp only [List.map_toArray, List.map_cons, List.map_nil]); first | done | rfl | (simp only [List.length_drop, List.length_take]; rfl)) : P := h
end Go.Proofs.YtilnppdognejbaaGreatDoor.P
namespace Go.Proofs.YtilnppdognejbaaGreatDoor.P
open Go.RowKit Go.Proofs.YtilnppdognejbaaGreatDoorW.PrintWords Go.Proofs.YtilnppdognejbaaGreatDoorW.PrintLast Go.Proofs.YtilnppdognejbaaGreatDoorW.PrintMore
attribute [local go_sem] max2_int min2_int max_two min_two max_three min_three max_four min_four   -- for this text's walks alone
set_option linter.unusedVariables false
set_option linter.unusedSimpArgs false
theorem eqNilIn (ad : Addr) (n c : Nat) (w : World) (d : Nat) : Sem.run Tryz.prog (Op.equalIn (d + 1) 123 (.slice (some ad) n c) (.slice none 0 0)) w = .ok false w := by
 simp [Op.equalIn, run_underlying Tryz.underlying123]
theorem eqNil0 (ad : Addr) (n c : Nat) (w : World) : Sem.run Tryz.prog (Op.equal 123 (.slice (some ad) n c) (.slice none 0 0)) w = .ok false w := eqNilIn ad n c w 9999
theorem eqNil1 (ad : Addr) (n c : Nat) (w : World) : Sem.run Tryz.prog (binOp .eql 123 (.slice (some ad) n c) (.slice none 0 0)) w = .ok (.bool false) w := by
 simp only [binOp]
 simp [eqNil0 ad n c w]
attribute [local go_sem] eqNil1
set_option maxRecDepth 100000 in
theorem clone86 (ad : Addr) (c : Nat) (l : List ByteArray) (hl : l.length ≤ 1000) (w : World) (hr : Kd.C Kd.string w (some ad) l.length l) :
  Calls Tryz.prog 86 #[.slice (some ad) l.length c] w fun e w' => ∃ v : Value, e = .returned v ∧ Kd.R Kd.string 9 w' w.heap.size (fun _ => True) v l ∧ Below w.heap.size w w' := by
 have HB := Aside0.mk (Below.refl w.heap.size w)
 have HR := Aside0.mk hr
 have HL := Aside0.mk hl
 clear hr hl
 go_enter Tryz.func86, Tryz.ntmps86
 go_wp2_with (first | ((with_reducible refine gate_dst (N := 5) rfl ?_); refine Kd.R_lit Kd.string (w0 := w) w.heap.size 9 ?hg (N := 5) ?hd (xs := ([] : List ByteArray)) (inner := []) (ok := fun _ => True) (okp := fun _ => True) ?hrr ?hp (fun _ hk => hk) trivial HB.out (Nat.le_refl _) (by simp) ?_; (case hd => rfl); (case hg => rfl); (case hrr => first | (go_simp; done) | (go_simp; rfl)); (case hp => exact Reps.none _ _); intro v1 w1 ho2 hb hg_ hnew_; have HO := Aside0.mk ho2; have HB1 := Aside0.mk hb; clear ho2 hb hg_ hnew_) | ((with_reducible refine gate_builtin (b := .append) (xs := #[.tmp 5, .tmp 6]) rfl ?_); at_builtin; refine Kd.R_append_rows Kd.string (w0 := w) w.heap.size rfl (.tmp 5) (.tmp 6) 123 9 (.string ⟨#[]⟩) 16 rfl Tryz.underlying123 (show (Tryz.prog.info? 9).map (fun i => (i.zero, i.size, i.bytes)) = some (some (.string ⟨#[]⟩), 1, 16) by kernel_rfl) rfl (by decide) (by decide) v1 ([] : List ByteArray) l (some ad) l.length c (fun _ => True) (fun _ => False) rfl rfl HO.out (Kd.C_below HR.out HB1.out) ?aK (fun _ hk => hk.elim) (fun _ _ => trivial) HB1.out HB1.out.size (by have := HL.out; simp; omega) ?_; (case aK => exact fun x cs h => h); intro v2 w2 ho hb hgr hat; have HO2 := Aside0.mk ho; have HB2 := Aside0.mk hb; clear ho hb hgr hat))
 go_ret
 exact ⟨v2, rfl, HO2.out, HB2.out⟩
def dutyN : List ByteArray := [⟨#[108, 101, 103, 115]⟩, ⟨#[104, 101, 97, 100, 115]⟩, ⟨#[116, 121, 112, 101, 115]⟩, ⟨#[98, 108, 111, 99, 107]⟩, ⟨#[115, 112, 97, 110]⟩, ⟨#[110, 105, 103, 104, 116]⟩, ⟨#[108, 111, 110, 103, 101, 115, 116]⟩, ⟨#[115, 104, 111, 114, 116, 101, 115, 116]⟩, ⟨#[115, 104, 105, 102, 116]⟩, ⟨#[115, 116, 97, 114, 116]⟩, ⟨#[101, 110, 100]⟩]
/-- The table of the duties' names, in its block. -/
def GL (w : World) : Prop := Kd.C Kd.string w (some ⟨1, 0, none⟩) 11 dutyN
theorem gl_below {w w' : World} (h : GL w) (hb : Below w.heap.size w w') : GL w' := Kd.C_below h hb
set_option maxRecDepth 100000 in
theorem attrs66 (w : World) (hg : GL w) :
  Calls Tryz.prog 66 #[.int .i64 1] w fun e w' => ∃ v : Value, e = .returned v ∧ Kd.R Kd.string 9 w' w.heap.size (fun _ => True) v dutyN ∧ Below w.heap.size w w' := by
 have hu1 := Tryz.underlying140
 have HB := Aside0.mk (Below.refl w.heap.size w)
 have HG := Aside0.mk hg
 clear hg
 go_enter Tryz.func66, Tryz.ntmps66
 go_wp2_with (first | (go_at_call 86; (refine (clone86 ⟨1, 0, none⟩ 11 dutyN (by decide) _ HG.out).mono ?_); rintro e w1 ⟨v, rfl, ho, hb⟩; have HO := Aside0.mk ho; have HB1 := Aside0.mk hb; clear ho hb))
 go_ret
 exact ⟨v, rfl, HO.out, HB1.out⟩
def types_Attributes.f (a0 : Int) : Option (List ByteArray) := if a0 = 1 then some dutyN else none
theorem types_Attributes.calls (a0 : Int) (r : List ByteArray) (w : World) (hGL0 : GL w) (h : types_Attributes.f a0 = some r) :
  Calls Tryz.prog 66 #[.int .i64 a0] w fun e w' => ∃ v0_ : Value, e = .returned (v0_) ∧ Kd.R Kd.string 9 w' w.heap.size (fun _ => True) v0_ r ∧ Below w.heap.size w w' := by
 unfold types_Attributes.f at h
 by_cases q : a0 = 1
 ·rw [if_pos q] at h
  subst q
  obtain rfl := Option.some.inj h
  exact attrs66 w hGL0
 ·rw [if_neg q] at h
  cases h
end Go.Proofs.YtilnppdognejbaaGreatDoor.P
namespace Go.Proofs.YtilnppdognejbaaGreatDoor.Mo
open Go.RowKit Go.Proofs.YtilnppdognejbaaGreatDoorW.PrintWords Go.Proofs.YtilnppdognejbaaGreatDoorW.PrintLast Go.Proofs.YtilnppdognejbaaGreatDoorW.PrintMore
open Go.ChangeShapes Go.WideShapes Go.Deep
open Go.Proofs.YtilnppdognejbaaGreatDoor.P
theorem cells3 : Tryz.prog.cellsOf 3 = 1 := by kernel_rfl
theorem cells9 : Tryz.prog.cellsOf 9 = 1 := by kernel_rfl
theorem cells140 : Tryz.prog.cellsOf 140 = 11 := by kernel_rfl
theorem list_of {α : Type} {Q : Nat → α → Prop} {n : Nat} (h : ∀ i, i < n → ∃ x, Q i x) : ∃ l : List α, l.length = n ∧ ∀ (j : Nat) (p : α), l[j]? = some p → Q j p := by
  induction n with
  | zero => exact ⟨[], rfl, fun j p hj => by simp at hj⟩
  | succ len ih =>
    obtain ⟨l, h1, h2⟩ := ih (fun i hi => h i (by omega))
    obtain ⟨a', h3⟩ := h len (by omega)
    refine ⟨l ++ [a'], by simp [h1], fun j p hj => ?_⟩
    rcases Nat.lt_or_ge j l.length with hlt | hge
    · rw [List.getElem?_append_left hlt] at hj
      exact h2 j p hj
    · have hj1 := (List.getElem?_eq_some_iff.1 hj).1
      rw [List.length_append, List.length_singleton] at hj1
      have e1 : j = l.length := by omega
      subst e1
      have e2 : a' = p := by simpa using hj
      subst e2
      rw [h1]
      exact h3
section
variable {H : Type} {enc : TypeId × Value → H} {W : World}
/-- A slice of whatever elements that read as a kind. -/
theorem slice_open {α : Type} (k : Kd α) (Wf : α → Prop) {t e : TypeId} (ht : Tryz.prog.underlying t = some (.slice e)) (hsz : k.sz = Tryz.prog.cellsOf e)
    (hop : ∀ n cs x, DataW.trod enc Tryz.prog W 0 (fun _ => true) true n e cs = some x → ∃ a : α, k.K W a cs ∧ Wf a)
    {n : Nat} {cs : List Value} {x : DataW H × List MemPlace} (h : DataW.trod enc Tryz.prog W 0 (fun _ => true) true n t cs = some x) :
    ∃ (A : Option Addr) (c : Nat) (l : List α), cs = [.slice A l.length c] ∧ l.length ≤ c ∧ k.C W A l.length l ∧ ∀ a ∈ l, Wf a := by
  rcases open_slice ht h with ⟨rfl, _⟩ | ⟨a, len, cap, m, n', D, Pl, rfl, hb, hl, hm, hmm, _, hx⟩
  · exact ⟨none, 0, [], rfl, Nat.le_refl _, ⟨rfl, by simp, fun h => by simp at h⟩, fun a ha => by cases ha⟩
  · simp only [if_true] at hmm
    subst hmm
    have each : ∀ i, i < len → ∃ a' : α, Wf a' ∧ ∃ cs', W.cells? 0 (a.add (i * Tryz.prog.cellsOf e)) (Tryz.prog.cellsOf e) = some cs' ∧ k.K W a' cs' := by
      intro i hi
      obtain ⟨cs', h1, h2⟩ := hx i (by omega)
      obtain ⟨a', h3, h4⟩ := hop _ _ _ h2
      exact ⟨a', h4, cs', h1, h3⟩
    have hlist := list_of each
    obtain ⟨l, hl1, hl2⟩ := hlist
    subst hl1
    refine ⟨some a, m, l, rfl, hl, ⟨rfl, ?_, fun _ => ⟨a, rfl, fun j p hj => ?_⟩⟩, fun p hp => ?_⟩
    · unfold maxLen at hm
      omega
    · obtain ⟨_, cs', h1, h2⟩ := hl2 j p hj
      obtain ⟨_, hlen, hcell⟩ := World.cells?_some h1
      refine ⟨cs', by rw [hlen, hsz], h2, fun i u hu => ?_⟩
      have hi : i < Tryz.prog.cellsOf e := by
        have := (List.getElem?_eq_some_iff.1 hu).1
        omega
      have := hcell i hi
      rw [Deep.add_add] at this
      rw [hsz, this, hu]
    · obtain ⟨j, hj, hp'⟩ := List.getElem_of_mem hp
      exact (hl2 j p (by rw [List.getElem?_eq_getElem hj, hp'])).1
end
/-- An array of strings that reads as these holds them, cell for cell. -/
theorem cells_of_strs {H : Type} {enc : TypeId × Value → H} {P : Program} {w : World} {base : Nat} {sp : Nat → Bool} {held : Bool} {fuel : Nat} {t e : TypeId} {n : Nat} {cs : List Value} {ss : List ByteArray} {p : List MemPlace}
    (ht : P.underlying t = some (.array n e)) (he : P.underlying e = some .string) (hce : P.cellsOf e = 1) (hct : P.cellsOf t = n)
    (h : DataW.trod enc P w base sp held fuel t cs = some (.agg (ss.map fun s => .lit (.string s.data.toList)), p)) : cs = ss.map fun s => Value.string s := by
  cases fuel with
  | zero => simp [DataW.trod] at h
  | succ fuel =>
    simp only [DataW.trod, ht, hce, hct, Nat.mul_one] at h
    split at h
    · rename_i hl
      obtain ⟨xs, hm, hx⟩ := Option.map_eq_some_iff.1 h
      have hxs : xs.map (·.1) = ss.map fun s => (DataW.lit (.string s.data.toList) : DataW H) := by
        have := congrArg Prod.fst hx
        simpa using this
      have hxl : xs.length = n := by simpa using Lib.mapM_length hm
      have hzl : ss.length = n := by
        have := congrArg List.length hxs
        simp at this
        omega
      apply List.ext_getElem?
      intro i
      by_cases hi : i < n
      · obtain ⟨b, hb, hf⟩ := Lib.mapM_at hm i i (by simp [hi])
        obtain ⟨s, hc, rfl, _⟩ := DataW.trod_string he hf
        have h1 : cs[i]? = some (.string s) := by
          have := congrArg (·[0]?) hc
          simpa [List.getElem?_take, List.getElem?_drop] using this
        have h2 : (xs.map (·.1))[i]? = some (DataW.lit (.string s.data.toList) : DataW H) := by simp [hb]
        rw [hxs] at h2
        simp only [List.getElem?_map, Option.map_eq_some_iff, DataW.lit.injEq, Lit.string.injEq] at h2
        obtain ⟨s', hs', e⟩ := h2
        have e2 : s' = s := by
          cases s'; cases s
          simp only [ByteArray.mk.injEq]
          exact Array.toList_inj.mp e
        subst e2
        simp [h1, hs']
      · rw [List.getElem?_eq_none (by omega), List.getElem?_eq_none (by simp; omega)]
    · cases h
theorem gNames : Tryz.prog.globalNamed "pairing/types.dutyNames" = some 1 := by kernel_rfl
theorem gNamesType : (Tryz.prog.globals[1]?).map (·.type) = some 140 := by kernel_rfl
/-- The table, where it stands first. -/
theorem names_of_head {W : World} {rest : List (String × DataW Unit)} (h : laidMet Tryz.prog (("pairing/types.dutyNames", Rows.laid_pairing_types_dutyNames) :: rest) W) : GL W := by
  obtain ⟨ps, ⟨g', t', cs, fuel, p, q, hg', ht', hvar, hd, _, _⟩, _⟩ := h
  obtain rfl := Option.some.inj (gNames.symm.trans hg')
  obtain rfl := Option.some.inj (gNamesType.symm.trans ht')
  have hc := cells_of_strs (ss := dutyN) Tryz.underlying140 Tryz.underlying9 cells9 cells140 hd
  refine ⟨rfl, by decide, fun _ => ⟨⟨1, 0, none⟩, rfl, fun j s hj => ⟨[.string s], rfl, rfl, fun i u hu => ?_⟩⟩⟩
  have hi : i = 0 := by
    have := (List.getElem?_eq_some_iff.1 hu).1
    simp at this
    omega
  subst hi
  have := World.var?_cell gNames hvar j
  rw [← Array.getElem?_toList, hc] at this
  have hs : u = .string s := by simpa using hu.symm
  subst hs
  have e : (⟨1, 0, none⟩ : Addr).add (j * Kd.string.sz + 0) = ⟨1, j, none⟩ := by
    simp [Addr.add, show Kd.string.sz = 1 from rfl]
    exact fun h => h.symm
  rw [e, this]
  simp [hj]
end Go.Proofs.YtilnppdognejbaaGreatDoor.Mo
namespace Go.Proofs.YtilnppdognejbaaGreatDoor.P
open Go.RowKit Go.Proofs.YtilnppdognejbaaGreatDoorW.PrintWords Go.Proofs.YtilnppdognejbaaGreatDoorW.PrintLast Go.Proofs.YtilnppdognejbaaGreatDoorW.PrintMore
attribute [local go_sem] max2_int min2_int max_two min_two max_three min_three max_four min_four   -- for this text's walks alone
set_option linter.unusedVariables false
set_option linter.unusedSimpArgs false
set_option maxHeartbeats 1000000 in
set_option maxRecDepth 100000 in
theorem cmpStr (a b : ByteArray) (w : World) :
  Calls Tryz.prog 63 #[.string a, .string b] w fun e w' => e = .returned (.int .i64 (Lib.compareBytes a.data.toList b.data.toList)) ∧ w' = w := by
 go_enter Tryz.func63, Tryz.ntmps63
 go_wp2
 rw [run_callFunc_extern Tryz.func84 (by kernel_rfl) (by kernel_rfl) (by kernel_rfl) (e := Extern.BytealgCompare.compare) (by kernel_rfl), Lib.run_compareString]
 simp only [Result.andThen]
 rw [Oper.upon_value]
 go_wp2
 go_ret
 exact ⟨rfl, rfl⟩
def strings_Compare.f (a0 a1 : ByteArray) : Option (Int) := some (Lib.compareBytes a0.toList a1.toList)
theorem strings_Compare.calls (a0 : ByteArray) (a1 : ByteArray) (r : Int) (w : World) (h : strings_Compare.f a0 a1 = some r) :
  Calls Tryz.prog 39 #[.string a0, .string a1] w fun e w' => e = .returned (.int .i64 r) ∧ Drawn0 w w' := by
 have h' : some (Lib.compareBytes a0.toList a1.toList) = some r := h
 obtain rfl := Option.some.inj h'
 clear h h'
 go_enter Tryz.func39, Tryz.ntmps39
 go_wp2_with (go_at_call 63; refine (cmpStr _ _ _).mono ?_; rintro e w' ⟨rfl, rfl⟩)
 go_ret
 exact ⟨by rw [ByteArray.toList_eq, ByteArray.toList_eq]; rfl, Drawn0.refl _⟩
end Go.Proofs.YtilnppdognejbaaGreatDoor.P
namespace Go.Proofs.YtilnppdognejbaaGreatDoor.P
open Go.RowKit Go.Proofs.YtilnppdognejbaaGreatDoorW.PrintWords Go.Proofs.YtilnppdognejbaaGreatDoorW.PrintLast Go.Proofs.YtilnppdognejbaaGreatDoorW.PrintMore
attribute [local go_sem] max2_int min2_int max_two min_two max_three min_three max_four min_four   -- for this text's walks alone
set_option linter.unusedVariables false
set_option linter.unusedSimpArgs false
def cmp_isNaN_int.f (a0 : Int) : Option (Bool) := some (a0 != a0)
set_option maxHeartbeats 8000000 in
set_option maxRecDepth 100000 in
theorem cmp_isNaN_int.calls (a0 : Int) (r : Bool) (w : World) (h : cmp_isNaN_int.f a0 = some r) :
  Calls Tryz.prog 85 #[.int .i64 a0] w fun e w' => e = .returned (.bool r) ∧ Drawn0 w w' := by
 have H : (some (a0 != a0)) = some r := h
 clear h
 obtain rfl := Option.some.inj H
 go_enter Tryz.func85, Tryz.ntmps85
 go_wp2
 go_ret
 exact ⟨by first | rfl | (simp; done) | (simp [*]; done), by repeat (first | exact Drawn0.refl _ | apply Drawn0.step)⟩
end Go.Proofs.YtilnppdognejbaaGreatDoor.P
namespace Go.Proofs.YtilnppdognejbaaGreatDoor.P
open Go.RowKit Go.Proofs.YtilnppdognejbaaGreatDoorW.PrintWords Go.Proofs.YtilnppdognejbaaGreatDoorW.PrintLast Go.Proofs.YtilnppdognejbaaGreatDoorW.PrintMore
attribute [local go_sem] max2_int min2_int max_two min_two max_three min_three max_four min_four   -- for this text's walks alone
set_option linter.unusedVariables false
set_option linter.unusedSimpArgs false
def cmp_Compare_int.f (a0 : Int) (a1 : Int) : Option (Int) := (cmp_isNaN_int.f a0).bind fun t372 => ((cmp_isNaN_int.f a1).bind fun t373 => (if t372 = true then (if t373 = true then (some 0) else (some (-1))) else (if t373 = true then (some 1) else (if a0 < a1 then (some (-1)) else (if a0 > a1 then (some 1) else (some 0))))))
set_option maxHeartbeats 8000000 in
set_option maxRecDepth 100000 in
theorem cmp_Compare_int.calls (a0 : Int) (a1 : Int) (r : Int) (w : World) (h : cmp_Compare_int.f a0 a1 = some r) :
  Calls Tryz.prog 65 #[.int .i64 a0, .int .i64 a1] w fun e w' => e = .returned (.int .i64 r) ∧ Drawn0 w w' := by
 have H : ((cmp_isNaN_int.f a0).bind fun t372 => ((cmp_isNaN_int.f a1).bind fun t373 => (if t372 = true then (if t373 = true then (some 0) else (some (-1))) else (if t373 = true then (some 1) else (if a0 < a1 then (some (-1)) else (if a0 > a1 then (some 1) else (some 0))))))) = some r := h
 clear h
 replace H := Option.bind_eq_some_iff.mp H
 obtain ⟨t372, A30, H⟩ := H
 replace H : ((cmp_isNaN_int.f a1).bind fun t373 => (if t372 = true then (if t373 = true then (some 0) else (some (-1))) else (if t373 = true then (some 1) else (if a0 < a1 then (some (-1)) else (if a0 > a1 then (some 1) else (some 0)))))) = some r := H
 have A3 := Aside0.mk A30
 clear A30
 replace H := Option.bind_eq_some_iff.mp H
 obtain ⟨t373, A40, H⟩ := H
 replace H : (if t372 = true then (if t373 = true then (some 0) else (some (-1))) else (if t373 = true then (some 1) else (if a0 < a1 then (some (-1)) else (if a0 > a1 then (some 1) else (some 0))))) = some r := H
 have A4 := Aside0.mk A40
 clear A40
 by_cases c5 : t372 = true
 ·subst c5
  have H1 : (if t373 = true then (some 0) else (some (-1))) = some r := by rw [if_pos rfl] at H; exact H
  clear H
  have H := H1
  clear H1
  by_cases c6 : t373 = true
  ·subst c6
   have H1 : (some 0) = some r := by rw [if_pos rfl] at H; exact H
   clear H
   have H := H1
   clear H1
   obtain rfl := Option.some.inj H
   go_enter Tryz.func65, Tryz.ntmps65
   go_wp2_with (first | ((with_reducible refine gate_callee (f := 85) rfl ?_); refine goesL_ (some 8) rfl rfl Tryz.func85 (by kernel_rfl) rfl #[.int .i64 a0] rfl hgl ?_; (with_reducible refine (cmp_isNaN_int.calls a0 true _ A3.out).mono ?_); rintro e w' ⟨rfl, ⟨nd, rfl⟩⟩; refine ⟨_, rfl, ?_⟩) | ((with_reducible refine gate_callee (f := 85) rfl ?_); refine goesL_ (some 10) rfl rfl Tryz.func85 (by kernel_rfl) rfl #[.int .i64 a1] rfl hgl ?_; (with_reducible refine (cmp_isNaN_int.calls a1 true _ A4.out).mono ?_); rintro e w' ⟨rfl, ⟨nd, rfl⟩⟩; refine ⟨_, rfl, ?_⟩))
   go_ret
   exact ⟨by first | rfl | (simp; done) | (simp [*]; done), by repeat (first | exact Drawn0.refl _ | apply Drawn0.step)⟩
  ·replace c6 := Bool.eq_false_iff.mpr c6
   subst c6
   have H1 : (some (-1)) = some r := by rw [if_neg (show ¬ (false = true) by decide)] at H; exact H
   clear H
   have H := H1
   clear H1
   obtain rfl := Option.some.inj H
   go_enter Tryz.func65, Tryz.ntmps65
   go_wp2_with (first | ((with_reducible refine gate_callee (f := 85) rfl ?_); refine goesL_ (some 8) rfl rfl Tryz.func85 (by kernel_rfl) rfl #[.int .i64 a0] rfl hgl ?_; (with_reducible refine (cmp_isNaN_int.calls a0 true _ A3.out).mono ?_); rintro e w' ⟨rfl, ⟨nd, rfl⟩⟩; refine ⟨_, rfl, ?_⟩) | ((with_reducible refine gate_callee (f := 85) rfl ?_); refine goesL_ (some 10) rfl rfl Tryz.func85 (by kernel_rfl) rfl #[.int .i64 a1] rfl hgl ?_; (with_reducible refine (cmp_isNaN_int.calls a1 false _ A4.out).mono ?_); rintro e w' ⟨rfl, ⟨nd, rfl⟩⟩; refine ⟨_, rfl, ?_⟩))
   go_ret
   exact ⟨by first | rfl | (simp; done) | (simp [*]; done), by repeat (first | exact Drawn0.refl _ | apply Drawn0.step)⟩
 ·replace c5 := Bool.eq_false_iff.mpr c5
  subst c5
  have H1 : (if t373 = true then (some 1) else (if a0 < a1 then (some (-1)) else (if a0 > a1 then (some 1) else (some 0)))) = some r := by rw [if_neg (show ¬ (false = true) by decide)] at H; exact H
  clear H
  have H := H1
  clear H1
  by_cases c7 : t373 = true
  ·subst c7
   have H1 : (some 1) = some r := by rw [if_pos rfl] at H; exact H
   clear H
   have H := H1
   clear H1
   obtain rfl := Option.some.inj H
   go_enter Tryz.func65, Tryz.ntmps65
   go_wp2_with (first | ((with_reducible refine gate_callee (f := 85) rfl ?_); refine goesL_ (some 8) rfl rfl Tryz.func85 (by kernel_rfl) rfl #[.int .i64 a0] rfl hgl ?_; (with_reducible refine (cmp_isNaN_int.calls a0 false _ A3.out).mono ?_); rintro e w' ⟨rfl, ⟨nd, rfl⟩⟩; refine ⟨_, rfl, ?_⟩) | ((with_reducible refine gate_callee (f := 85) rfl ?_); refine goesL_ (some 10) rfl rfl Tryz.func85 (by kernel_rfl) rfl #[.int .i64 a1] rfl hgl ?_; (with_reducible refine (cmp_isNaN_int.calls a1 true _ A4.out).mono ?_); rintro e w' ⟨rfl, ⟨nd, rfl⟩⟩; refine ⟨_, rfl, ?_⟩))
   go_ret
   exact ⟨by first | rfl | (simp; done) | (simp [*]; done), by repeat (first | exact Drawn0.refl _ | apply Drawn0.step)⟩
  ·replace c7 := Bool.eq_false_iff.mpr c7
   subst c7
   have H1 : (if a0 < a1 then (some (-1)) else (if a0 > a1 then (some 1) else (some 0))) = some r := by rw [if_neg (show ¬ (false = true) by decide)] at H; exact H
   clear H
   have H := H1
   clear H1
   by_cases c8 : a0 < a1
   ·rw [if_pos c8] at H
    have c8b0 : decide (a0 < a1) = true := decide_eq_true c8
    clear c8
    obtain rfl := Option.some.inj H
    go_enter Tryz.func65, Tryz.ntmps65
    go_wp2_with (first | ((with_reducible refine gate_callee (f := 85) rfl ?_); refine goesL_ (some 8) rfl rfl Tryz.func85 (by kernel_rfl) rfl #[.int .i64 a0] rfl hgl ?_; (with_reducible refine (cmp_isNaN_int.calls a0 false _ A3.out).mono ?_); rintro e w' ⟨rfl, ⟨nd, rfl⟩⟩; refine ⟨_, rfl, ?_⟩) | ((with_reducible refine gate_callee (f := 85) rfl ?_); refine goesL_ (some 10) rfl rfl Tryz.func85 (by kernel_rfl) rfl #[.int .i64 a1] rfl hgl ?_; (with_reducible refine (cmp_isNaN_int.calls a1 false _ A4.out).mono ?_); rintro e w' ⟨rfl, ⟨nd, rfl⟩⟩; refine ⟨_, rfl, ?_⟩))
    go_ret
    exact ⟨by first | rfl | (simp; done) | (simp [*]; done), by repeat (first | exact Drawn0.refl _ | apply Drawn0.step)⟩
   ·rw [if_neg c8] at H
    have c8b0 : decide (a0 < a1) = false := decide_eq_false c8
    clear c8
    by_cases c9 : a0 > a1
    ·rw [if_pos c9] at H
     have c9b0 : decide (a1 < a0) = true := decide_eq_true c9
     clear c9
     obtain rfl := Option.some.inj H
     go_enter Tryz.func65, Tryz.ntmps65
     go_wp2_with (first | ((with_reducible refine gate_callee (f := 85) rfl ?_); refine goesL_ (some 8) rfl rfl Tryz.func85 (by kernel_rfl) rfl #[.int .i64 a0] rfl hgl ?_; (with_reducible refine (cmp_isNaN_int.calls a0 false _ A3.out).mono ?_); rintro e w' ⟨rfl, ⟨nd, rfl⟩⟩; refine ⟨_, rfl, ?_⟩) | ((with_reducible refine gate_callee (f := 85) rfl ?_); refine goesL_ (some 10) rfl rfl Tryz.func85 (by kernel_rfl) rfl #[.int .i64 a1] rfl hgl ?_; (with_reducible refine (cmp_isNaN_int.calls a1 false _ A4.out).mono ?_); rintro e w' ⟨rfl, ⟨nd, rfl⟩⟩; refine ⟨_, rfl, ?_⟩))
     go_ret
     exact ⟨by first | rfl | (simp; done) | (simp [*]; done), by repeat (first | exact Drawn0.refl _ | apply Drawn0.step)⟩
    ·rw [if_neg c9] at H
     have c9b0 : decide (a1 < a0) = false := decide_eq_false c9
     clear c9
     obtain rfl := Option.some.inj H
     go_enter Tryz.func65, Tryz.ntmps65
     go_wp2_with (first | ((with_reducible refine gate_callee (f := 85) rfl ?_); refine goesL_ (some 8) rfl rfl Tryz.func85 (by kernel_rfl) rfl #[.int .i64 a0] rfl hgl ?_; (with_reducible refine (cmp_isNaN_int.calls a0 false _ A3.out).mono ?_); rintro e w' ⟨rfl, ⟨nd, rfl⟩⟩; refine ⟨_, rfl, ?_⟩) | ((with_reducible refine gate_callee (f := 85) rfl ?_); refine goesL_ (some 10) rfl rfl Tryz.func85 (by kernel_rfl) rfl #[.int .i64 a1] rfl hgl ?_; (with_reducible refine (cmp_isNaN_int.calls a1 false _ A4.out).mono ?_); rintro e w' ⟨rfl, ⟨nd, rfl⟩⟩; refine ⟨_, rfl, ?_⟩))
     go_ret
     exact ⟨by first | rfl | (simp; done) | (simp [*]; done), by repeat (first | exact Drawn0.refl _ | apply Drawn0.step)⟩
end Go.Proofs.YtilnppdognejbaaGreatDoor.P
namespace Go.Proofs.YtilnppdognejbaaGreatDoor.P
open Go.RowKit Go.Proofs.YtilnppdognejbaaGreatDoorW.PrintWords Go.Proofs.YtilnppdognejbaaGreatDoorW.PrintLast Go.Proofs.YtilnppdognejbaaGreatDoorW.PrintMore
attribute [local go_sem] max2_int min2_int max_two min_two max_three min_three max_four min_four   -- for this text's walks alone
set_option linter.unusedVariables false
set_option linter.unusedSimpArgs false
def measure_compareTasks.j0 : Nat → Bool → Int → Bool → Int → Bool → Option (Int)
 | 0, _, _, _, _, _ => none
 | k + 1, x5, x375000, x375001, x376000, x376001 => if x5 = true then ((cmp_Compare_int.f x375000 x376000).bind fun t376 => (some t376)) else (if x376001 = true then (some (-1)) else (some 1))
def measure_compareTasks.f (k : Nat) (a0_0 : Int) (a0_1 : Bool) (a1_0 : Int) (a1_1 : Bool) : Option (Int) := if a0_0 = a1_0 then (measure_compareTasks.j0 k (a0_1 == a1_1) a0_0 a0_1 a1_0 a1_1) else (measure_compareTasks.j0 k true a0_0 a0_1 a1_0 a1_1)
set_option maxHeartbeats 8000000 in
set_option maxRecDepth 100000 in
theorem measure_compareTasks.calls (k : Nat) (a0_0 : Int) (a0_1 : Bool) (a1_0 : Int) (a1_1 : Bool) (r : Int) (w : World) (h : measure_compareTasks.f k a0_0 a0_1 a1_0 a1_1 = some r) :
  Calls Tryz.prog 43 #[.agg #[.int .i64 a0_0, .bool a0_1], .agg #[.int .i64 a1_0, .bool a1_1]] w fun e w' => e = .returned (.int .i64 r) ∧ Below w.heap.size w w' := by
 have hu50 := Tryz.underlying50
 have HB := Aside0.mk (Below.refl w.heap.size w)
 have H : (if a0_0 = a1_0 then (measure_compareTasks.j0 k (a0_1 == a1_1) a0_0 a0_1 a1_0 a1_1) else (measure_compareTasks.j0 k true a0_0 a0_1 a1_0 a1_1)) = some r := h
 clear h
 have HC3 := Aside0.mk H
 clear H
 go_enter Tryz.func43, Tryz.ntmps43
 go_upto_region 1 with (first | ((with_reducible refine gate_dst (N := 2) rfl ?_); refine box_event ?hg (N := 2) ?hd (cs := #[.int .i64 a0_0, .bool a0_1]) (t := 50) ?hr ?_; (case hd => rfl); (case hg => rfl); (case hr => first | (go_simp; done) | (go_simp; rfl)); intro gb374 hg w4 hbox hb; have BK374 := Aside0.mk hbox; have GE374 := Aside0.mk ((by rw [hg]; exact (below_size hbk) : w.heap.size ≤ gb374)); replace HB := Aside0.mk (below_step hbk hb); clear hb hbox hg) | ((with_reducible refine gate_dst (N := 3) rfl ?_); refine box_event ?hg (N := 3) ?hd (cs := #[.int .i64 a1_0, .bool a1_1]) (t := 50) ?hr ?_; (case hd => rfl); (case hg => rfl); (case hr => first | (go_simp; done) | (go_simp; rfl)); intro gb375 hg w5 hbox hb; have BK375 := Aside0.mk hbox; have GE375 := Aside0.mk ((by rw [hg]; exact (below_size hbk) : w.heap.size ≤ gb375)); have NB374_375 := Aside0.mk ((by rw [hg]; exact Nat.ne_of_lt (blk_ltB BK374.out) : gb374 ≠ gb375)); have NB375_374 := Aside0.mk ((by rw [hg]; exact Nat.ne_of_gt (blk_ltB BK374.out) : gb375 ≠ gb374)); replace BK374 := Aside0.mk (blk_belowB BK374.out hb); replace HB := Aside0.mk (below_step hbk hb); clear hb hbox hg))
 (try simp only [Act.put, List.setIfInBounds_toArray, List.set_cons_zero, List.set_cons_succ])
 go_cut [5] (fun v5 wc => ∃ (kq : Nat) (x5_2 : Bool), v5 = .bool x5_2 ∧ Aside0 (measure_compareTasks.j0 kq x5_2 a0_0 a0_1 a1_0 a1_1 = some r) ∧ Aside0 (kq ≤ k) ∧ Aside0 (wc.heap[gb374]? = some (.cells #[.int .i64 a0_0, .bool a0_1] 50 (0, 0))) ∧ Aside0 (wc.heap[gb375]? = some (.cells #[.int .i64 a1_0, .bool a1_1] 50 (0, 0))) ∧ Aside0 (Below w.heap.size w wc))
 case first =>
  have H := HC3.out
  clear HC3
  by_cases c6 : a0_0 = a1_0
  ·rw [if_pos c6] at H
   have c6b0 : (a0_0 == a1_0) = true := beq_iff_eq.mpr c6
   have c6b1 : (a0_0 != a1_0) = false := bne_eq_false_iff_eq.mpr c6
   clear c6
   (first | rw [c6b0] | (simp only [i64_w, i32_w]; rw [c6b0]) | skip)
   have H' := Aside0.mk H
   clear H
   have hnb7 := NB374_375.out
   have hnc7 := NB375_374.out
   obtain ⟨hcz8_0, hcz8_1⟩ := blk_cs2 BK374.out
   obtain ⟨hfz8_0, hfz8_1⟩ := blk_fs2 BK374.out
   obtain ⟨hcz9_0, hcz9_1⟩ := blk_cs2 BK375.out
   obtain ⟨hfz9_0, hfz9_1⟩ := blk_fs2 BK375.out
   go_wp2
   go_meet
   case rel => exact ⟨_, ((a0_1 == a1_1)), (by first | rfl | (simp; done) | (simp [*]; done)), H', ⟨by first | omega | exact Nat.le_refl _⟩, ⟨by (with_reducible repeat (first | refine blk_drewN ?_ _ | refine blk_drew ?_ | refine blk_alloc ?_ _)); exact BK374.out⟩, ⟨by (with_reducible repeat (first | refine blk_drewN ?_ _ | refine blk_drew ?_ | refine blk_alloc ?_ _)); exact BK375.out⟩, ⟨hbk⟩⟩
  ·rw [if_neg c6] at H
   have c6b0 : (a0_0 == a1_0) = false := beq_eq_false_iff_ne.mpr c6
   have c6b1 : (a0_0 != a1_0) = true := bne_iff_ne.mpr c6
   (first | rw [c6b0] | (simp only [i64_w, i32_w]; rw [c6b0]) | skip)
   have H' := Aside0.mk H
   clear H
   have hnb10 := NB374_375.out
   have hnc10 := NB375_374.out
   obtain ⟨hcz11_0, hcz11_1⟩ := blk_cs2 BK374.out
   obtain ⟨hfz11_0, hfz11_1⟩ := blk_fs2 BK374.out
   obtain ⟨hcz12_0, hcz12_1⟩ := blk_cs2 BK375.out
   obtain ⟨hfz12_0, hfz12_1⟩ := blk_fs2 BK375.out
   go_wp2
   go_meet
   case rel => exact ⟨_, (true), (by first | rfl | (simp; done) | (simp [*]; done)), H', ⟨by first | omega | exact Nat.le_refl _⟩, ⟨by (with_reducible repeat (first | refine blk_drewN ?_ _ | refine blk_drew ?_ | refine blk_alloc ?_ _)); exact BK374.out⟩, ⟨by (with_reducible repeat (first | refine blk_drewN ?_ _ | refine blk_drew ?_ | refine blk_alloc ?_ _)); exact BK375.out⟩, ⟨hbk⟩⟩
 case rest =>
  clear HC3
  try clear c1
  try clear p2
  try clear c4
  try clear c6
  try clear c6b0
  try clear c6b1
  try clear c7
  try clear c10
  try clear hcz11_0
  try clear hcz11_1
  try clear hcz12_0
  try clear hcz12_1
  try clear hcz8_0
  try clear hcz8_1
  try clear hcz9_0
  try clear hcz9_1
  try clear hfz11_0
  try clear hfz11_1
  try clear hfz12_0
  try clear hfz12_1
  try clear hfz8_0
  try clear hfz8_1
  try clear hfz9_0
  try clear hfz9_1
  obtain ⟨kq, x5_2, rfl, HA, HJ2, BK374, BK375, HB⟩ := hcut
  cases kq with
  | zero => exact absurd HA.out (by simp [measure_compareTasks.j0])
  | succ kj2 =>
   have H := HA.out
   clear HA
   simp only [measure_compareTasks.j0] at H
   by_cases c13 : x5_2 = true
   ·subst c13
    have H1 : ((cmp_Compare_int.f a0_0 a1_0).bind fun t376 => (some t376)) = some r := by rw [if_pos rfl] at H; exact H
    clear H
    have H := H1
    clear H1
    replace H := Option.bind_eq_some_iff.mp H
    obtain ⟨t376, A140, H⟩ := H
    replace H : (some t376) = some r := H
    have A14 := Aside0.mk A140
    clear A140
    obtain rfl := Option.some.inj H
    have hnb15 := NB374_375.out
    have hnc15 := NB375_374.out
    obtain ⟨hcz16_0, hcz16_1⟩ := blk_cs2 BK374.out
    obtain ⟨hfz16_0, hfz16_1⟩ := blk_fs2 BK374.out
    obtain ⟨hcz17_0, hcz17_1⟩ := blk_cs2 BK375.out
    obtain ⟨hfz17_0, hfz17_1⟩ := blk_fs2 BK375.out
    go_wp2_with (first | ((with_reducible refine gate_callee (f := 65) rfl ?_); refine goesL_ (some 22) rfl rfl Tryz.func65 (by kernel_rfl) rfl #[.int .i64 a0_0, .int .i64 a1_0] rfl hgl ?_; (with_reducible refine (cmp_Compare_int.calls a0_0 a1_0 t376 _ A14.out).mono ?_); rintro e w' ⟨rfl, ⟨nd, rfl⟩⟩; refine ⟨_, rfl, ?_⟩))
    go_ret
    exact ⟨hrf, hbk⟩
   ·replace c13 := Bool.eq_false_iff.mpr c13
    subst c13
    have H1 : (if a1_1 = true then (some (-1)) else (some 1)) = some r := by rw [if_neg (show ¬ (false = true) by decide)] at H; exact H
    clear H
    have H := H1
    clear H1
    by_cases c18 : a1_1 = true
    ·subst c18
     have H1 : (some (-1)) = some r := by rw [if_pos rfl] at H; exact H
     clear H
     have H := H1
     clear H1
     obtain rfl := Option.some.inj H
     have hnb19 := NB375_374.out
     have hnc19 := NB374_375.out
     obtain ⟨hcz20_0, hcz20_1⟩ := blk_cs2 BK375.out
     obtain ⟨hfz20_0, hfz20_1⟩ := blk_fs2 BK375.out
     go_wp2
     go_ret
     exact ⟨hrf, hbk⟩
    ·replace c18 := Bool.eq_false_iff.mpr c18
     subst c18
     have H1 : (some 1) = some r := by rw [if_neg (show ¬ (false = true) by decide)] at H; exact H
     clear H
     have H := H1
     clear H1
     obtain rfl := Option.some.inj H
     have hnb21 := NB375_374.out
     have hnc21 := NB374_375.out
     obtain ⟨hcz22_0, hcz22_1⟩ := blk_cs2 BK375.out
     obtain ⟨hfz22_0, hfz22_1⟩ := blk_fs2 BK375.out
     go_wp2
     go_ret
     exact ⟨hrf, hbk⟩
end Go.Proofs.YtilnppdognejbaaGreatDoor.P
namespace Go.Proofs.YtilnppdognejbaaGreatDoor.P
open Go.RowKit Go.Proofs.YtilnppdognejbaaGreatDoorW.PrintWords Go.Proofs.YtilnppdognejbaaGreatDoorW.PrintLast Go.Proofs.YtilnppdognejbaaGreatDoorW.PrintMore
attribute [local go_sem] max2_int min2_int max_two min_two max_three min_three max_four min_four   -- for this text's walks alone
set_option linter.unusedVariables false
set_option linter.unusedSimpArgs false
def cmpT (x y : S50) : Int := if x.f0 < y.f0 then -1 else if y.f0 < x.f0 then 1 else if x.f1 = y.f1 then 0 else if y.f1 = true then -1 else 1
def cmpL {α : Type} (c : α → α → Int) : List α → List α → Int
 | [], [] => 0
 | [], _ :: _ => -1
 | _ :: _, [] => 1
 | x :: xs, y :: ys => if c x y = 0 then cmpL c xs ys else c x y
theorem cmpL_end {α : Type} (c : α → α → Int) (l m : List α) (k : Nat) (h1 : k < l.length) (h2 : ¬ k < m.length) : cmpL c (l.drop k) (m.drop k) = 1 := by
 rw [List.drop_eq_getElem_cons h1, List.drop_eq_nil_of_le (by omega : m.length ≤ k)]
 rfl
theorem cmpL_done {α : Type} (c : α → α → Int) (l m : List α) (k : Nat) (h1 : l.length ≤ k) : cmpL c (l.drop k) (m.drop k) = if k < m.length then -1 else 0 := by
 rw [List.drop_eq_nil_of_le h1]
 by_cases h : k < m.length
 ·rw [if_pos h, List.drop_eq_getElem_cons h]
  rfl
 ·rw [if_neg h, List.drop_eq_nil_of_le (by omega : m.length ≤ k)]
  rfl
theorem cmpL_step {α : Type} (c : α → α → Int) (l m : List α) (k : Nat) (h1 : k < l.length) (h2 : k < m.length) : cmpL c (l.drop k) (m.drop k) = if c l[k] m[k] = 0 then cmpL c (l.drop (k + 1)) (m.drop (k + 1)) else c l[k] m[k] := by
 rw [List.drop_eq_getElem_cons h1, List.drop_eq_getElem_cons h2]
 rfl
theorem rdTask (l : List S50) (k : Nat) (h : k < l.length) : rd_T50 l (k : Int) = l[k] := by
 unfold rd_T50
 simp [h]
theorem cmpT_f (x y : S50) : measure_compareTasks.f 1 x.f0 x.f1 y.f0 y.f1 = some (cmpT x y) := by
 have h1 : cmp_Compare_int.f x.f0 y.f0 = some (if x.f0 < y.f0 then -1 else if y.f0 < x.f0 then 1 else 0) := by
  simp only [cmp_Compare_int.f, cmp_isNaN_int.f]
  simp
  by_cases a1 : x.f0 < y.f0
  ·simp [a1]
  ·by_cases a2 : y.f0 < x.f0 <;> simp [a1, a2]
 obtain ⟨a, b⟩ := x
 obtain ⟨c, d⟩ := y
 simp only at h1
 unfold measure_compareTasks.f cmpT
 by_cases h : a = c
 ·subst h
  simp only [Int.lt_irrefl, if_true, if_false]
  cases b <;> cases d <;> simp [measure_compareTasks.j0, h1]
 ·simp only [if_neg h, measure_compareTasks.j0, if_true, h1, Option.bind_some]
  by_cases h2 : a < c
  ·simp [h2]
  ·have h3 : c < a := by omega
   simp [h2, h3]
set_option maxHeartbeats 8000000 in
set_option maxRecDepth 100000 in
theorem cmpF (A0 : Option Addr) (c0 : Nat) (l0 : List S50) (A1 : Option Addr) (c1 : Nat) (l1 : List S50) (w : World) (hr0 : Kd.C k50 w A0 l0.length l0) (hr1 : Kd.C k50 w A1 l1.length l1) (h0 : l0.length ≤ 9223372036854775807) (h1 : l1.length ≤ 9223372036854775807) :
  Calls Tryz.prog 42 #[.slice A0 l0.length c0, .slice A1 l1.length c1, .func (.func 43) #[] #[]] w fun e w' => e = .returned (.int .i64 (cmpL cmpT l0 l1)) ∧ Below w.heap.size w w' := by
 have hu := Tryz.underlying50
 have HB := Aside0.mk (Below.refl w.heap.size w)
 have HR0 := Aside0.mk hr0
 have HR1 := Aside0.mk hr1
 clear hr0 hr1
 go_enter Tryz.func42, Tryz.ntmps42
 go_wp2_with fail
 go_loopw [13] (fun v13 wr => ∃ k : Nat, k ≤ l0.length ∧ k ≤ l1.length ∧ v13 = .int .i64 (k : Int) ∧ Aside0 (cmpL cmpT l0 l1 = cmpL cmpT (l0.drop k) (l1.drop k)) ∧ Aside0 (Below w.heap.size w wr)) (fun v13 _ => l0.length - (intOf v13).toNat)
 case atStart => exact ⟨0, Nat.zero_le _, Nat.zero_le _, rfl, ⟨rfl⟩, ⟨by repeat (first | exact HB.out | apply below_alloc | apply pw_below_drewN | apply below_drew1)⟩⟩
 case round =>
  clear HB
  obtain ⟨k, hk, hk1, rfl, HA, HB⟩ := hrel
  by_cases hlt : k < l0.length
  ·have b1 : decide ((k : Int) < (l0.length : Int)) = true := decide_eq_true (by omega)
   have p0 : 0 ≤ (k : Int) := by omega
   have q0 : (k : Int) < (l0.length : Int) := by omega
   obtain ⟨ad, e, hc0, hc1⟩ := at_T50 (Kd.C_below HR0.out HB.out) (k : Int) p0 q0
   subst e
   simp only [Int.toNat_natCast] at hc0 hc1
   replace p0 := eq_true p0
   replace q0 := eq_true q0
   by_cases hm : k < l1.length
   ·have b2 : decide ((k : Int) ≥ (l1.length : Int)) = false := decide_eq_false (by omega)
    have q1 : (k : Int) < (l1.length : Int) := by omega
    obtain ⟨ae, e, hd0, hd1⟩ := at_T50 (Kd.C_below HR1.out HB.out) (k : Int) (by omega) q1
    subst e
    simp only [Int.toNat_natCast] at hd0 hd1
    replace q1 := eq_true q1
    have hd2 : ∀ o, (wr.alloc o).cell? (ae.add (k * 2)) = _ := fun o => (World.cell?_alloc_some wr _ o (by rw [hd0]; rfl)).trans hd0
    have hd3 : ∀ o, (wr.alloc o).cell? ⟨(ae.add (k * 2)).block, (ae.add (k * 2)).off + 1, none⟩ = _ := fun o => (World.cell?_alloc_some wr _ o (by rw [hd1]; rfl)).trans hd1
    clear hd0 hd1
    have hs := cmpL_step cmpT l0 l1 k hlt hm
    rw [← rdTask l0 k hlt, ← rdTask l1 k hm] at hs
    by_cases hn : cmpT (rd_T50 l0 (k : Int)) (rd_T50 l1 (k : Int)) = 0
    ·rw [if_pos hn, ← HA.out] at hs
     have HS := Aside0.mk hs
     have HN := Aside0.mk hn
     have HK := Aside0.mk (And.intro hlt hm)
     have b3 : (cmpT (rd_T50 l0 (k : Int)) (rd_T50 l1 (k : Int)) != 0) = false := bne_eq_false_iff_eq.mpr hn
     clear hs hn
     go_wp2_with (first | (go_at_call 43; (refine (measure_compareTasks.calls 1 _ _ _ _ _ _ (cmpT_f (rd_T50 l0 (k : Int)) (rd_T50 l1 (k : Int)))).mono ?_); rintro e w1 ⟨rfl, hb⟩; have HB1 := Aside0.mk (below_step (by repeat (first | exact HB.out | apply below_alloc | apply pw_below_drewN | apply below_drew1 | refine below_set ?_ (by have := HB.out.size; omega))) hb); clear hb))
     exact ⟨⟨k + 1, by have := HK.out; omega, by have := HK.out; omega, by go_num, ⟨HS.out⟩, HB1⟩, by have := HK.out; simp [intOf]; omega⟩
    ·rw [if_neg hn, ← HA.out] at hs
     have HS := Aside0.mk hs
     have HN := Aside0.mk hn
     have b3 : (cmpT (rd_T50 l0 (k : Int)) (rd_T50 l1 (k : Int)) != 0) = true := bne_iff_ne.mpr hn
     clear hs hn
     go_wp2_with (first | (go_at_call 43; (refine (measure_compareTasks.calls 1 _ _ _ _ _ _ (cmpT_f (rd_T50 l0 (k : Int)) (rd_T50 l1 (k : Int)))).mono ?_); rintro e w1 ⟨rfl, hb⟩; have HB1 := Aside0.mk (below_step (by repeat (first | exact HB.out | apply below_alloc | apply pw_below_drewN | apply below_drew1 | refine below_set ?_ (by have := HB.out.size; omega))) hb); clear hb))
     go_ret
     exact ⟨by rw [HS.out]; rfl, HB1.out⟩
   ·have b2 : decide ((k : Int) ≥ (l1.length : Int)) = true := decide_eq_true (by omega)
    have HE := Aside0.mk (HA.out.trans (cmpL_end cmpT l0 l1 k hlt hm))
    go_wp2_with fail
    go_ret
    exact ⟨by rw [HE.out]; rfl, by repeat (first | exact HB.out | apply below_alloc | apply pw_below_drewN | apply below_drew1 | refine below_set ?_ (by have := HB.out.size; omega))⟩
  ·have b1 : decide ((k : Int) < (l0.length : Int)) = false := decide_eq_false (by omega)
   have he := HA.out.trans (cmpL_done cmpT l0 l1 k (by omega))
   obtain rfl : k = l0.length := by omega
   by_cases hm : l0.length < l1.length
   ·rw [if_pos hm] at he
    have HE := Aside0.mk he
    have b2 : decide ((l0.length : Int) < (l1.length : Int)) = true := decide_eq_true (by omega)
    clear he
    go_wp2_with fail
    go_ret
    exact ⟨by rw [HE.out]; rfl, by repeat (first | exact HB.out | apply below_alloc | apply pw_below_drewN | apply below_drew1)⟩
   ·rw [if_neg hm] at he
    have HE := Aside0.mk he
    have b2 : decide ((l0.length : Int) < (l1.length : Int)) = false := decide_eq_false (by omega)
    clear he
    go_wp2_with fail
    go_ret
    exact ⟨by rw [HE.out]; rfl, by repeat (first | exact HB.out | apply below_alloc | apply pw_below_drewN | apply below_drew1)⟩
def measure_CompareDuties.f (l0 : List (S50)) (l1 : List (S50)) : Option (Int) := some (cmpL cmpT l0 l1)
theorem measure_CompareDuties.calls (A0 : Option Addr) (c0 : Nat) (l0 : List (S50)) (A1 : Option Addr) (c1 : Nat) (l1 : List (S50)) (r : Int) (w : World) (hr0 : Kd.C k50 w A0 l0.length l0) (hc0 : l0.length ≤ c0) (hr1 : Kd.C k50 w A1 l1.length l1) (hc1 : l1.length ≤ c1) (h : measure_CompareDuties.f l0 l1 = some r) :
  Calls Tryz.prog 15 #[.slice A0 l0.length c0, .slice A1 l1.length c1] w fun e w' => e = .returned (.int .i64 r) ∧ Below w.heap.size w w' := by
 have h' : some (cmpL cmpT l0 l1) = some r := h
 obtain rfl := Option.some.inj h'
 clear h h'
 have HF := Aside0.mk (cmpF A0 c0 l0 A1 c1 l1 w hr0 hr1 hr0.2.1 hr1.2.1)
 clear hr0 hr1 hc0 hc1
 go_enter Tryz.func15, Tryz.ntmps15
 go_wp2_with (go_at_call 42; (refine HF.out.mono ?_); rintro e w1 ⟨rfl, hb⟩; have HB1 := Aside0.mk hb; clear hb)
 go_ret
 exact ⟨rfl, HB1.out⟩
end Go.Proofs.YtilnppdognejbaaGreatDoor.P
namespace Go.Proofs.YtilnppdognejbaaGreatDoor.P
open Go.RowKit Go.Proofs.YtilnppdognejbaaGreatDoorW.PrintWords Go.Proofs.YtilnppdognejbaaGreatDoorW.PrintLast Go.Proofs.YtilnppdognejbaaGreatDoorW.PrintMore
attribute [local go_sem] max2_int min2_int max_two min_two max_three min_three max_four min_four   -- for this text's walks alone
set_option linter.unusedVariables false
set_option linter.unusedSimpArgs false
theorem rdDuty (l : List (List S50)) (k : Nat) (h : k < l.length) : rd_L31 l (k : Int) = l[k] := by
 unfold rd_L31
 simp [h]
theorem cd_f (x y : List S50) : measure_CompareDuties.f x y = some (cmpL cmpT x y) := rfl
def api_Duty.f (l0 : List (List (S50))) (l1 : List (List (S50))) : Option (Int) := some (cmpL (cmpL cmpT) l0 l1)
set_option maxHeartbeats 8000000 in
set_option maxRecDepth 100000 in
theorem api_Duty.calls (A0 : Option Addr) (c0 : Nat) (l0 : List (List (S50))) (A1 : Option Addr) (c1 : Nat) (l1 : List (List (S50))) (r : Int) (w : World) (hr0 : Kd.C (Kd.slice 50 k50) w A0 l0.length l0) (hc0 : l0.length ≤ c0) (hr1 : Kd.C (Kd.slice 50 k50) w A1 l1.length l1) (hc1 : l1.length ≤ c1) (h : api_Duty.f l0 l1 = some r) :
  Calls Tryz.prog 40 #[.slice A0 l0.length c0, .slice A1 l1.length c1, .func (.func 15) #[] #[]] w fun e w' => e = .returned (.int .i64 r) ∧ Below w.heap.size w w' := by
 have h' : some (cmpL (cmpL cmpT) l0 l1) = some r := h
 obtain rfl := Option.some.inj h'
 have HB := Aside0.mk (Below.refl w.heap.size w)
 have HR0 := Aside0.mk hr0
 have HR1 := Aside0.mk hr1
 have h0 := hr0.2.1
 have h1 := hr1.2.1
 clear hr0 hr1 h h' hc0 hc1
 go_enter Tryz.func40, Tryz.ntmps40
 go_wp2_with fail
 go_loopw [13] (fun v13 wr => ∃ k : Nat, k ≤ l0.length ∧ k ≤ l1.length ∧ v13 = .int .i64 (k : Int) ∧ Aside0 (cmpL (cmpL cmpT) l0 l1 = cmpL (cmpL cmpT) (l0.drop k) (l1.drop k)) ∧ Aside0 (Below w.heap.size w wr)) (fun v13 _ => l0.length - (intOf v13).toNat)
 case atStart => exact ⟨0, Nat.zero_le _, Nat.zero_le _, rfl, ⟨rfl⟩, ⟨by repeat (first | exact HB.out | apply below_alloc | apply pw_below_drewN | apply below_drew1)⟩⟩
 case round =>
  clear HB
  obtain ⟨k, hk, hk1, rfl, HA, HB⟩ := hrel
  by_cases hlt : k < l0.length
  ·have b1 : decide ((k : Int) < (l0.length : Int)) = true := decide_eq_true (by omega)
   have p0 : 0 ≤ (k : Int) := by omega
   have q0 : (k : Int) < (l0.length : Int) := by omega
   obtain ⟨ad, B0, d0, e, hc0, hl0, hi0⟩ := at_L31 (Kd.C_below HR0.out HB.out) (k : Int) p0 q0
   subst e
   simp only [Int.toNat_natCast] at hc0
   replace p0 := eq_true p0
   replace q0 := eq_true q0
   by_cases hm : k < l1.length
   ·have b2 : decide ((k : Int) ≥ (l1.length : Int)) = false := decide_eq_false (by omega)
    have q1 : (k : Int) < (l1.length : Int) := by omega
    obtain ⟨ae, B1, d1, e, hd0, hl1, hi1⟩ := at_L31 (Kd.C_below HR1.out HB.out) (k : Int) (by omega) q1
    subst e
    simp only [Int.toNat_natCast] at hd0
    replace q1 := eq_true q1
    have hs := cmpL_step (cmpL cmpT) l0 l1 k hlt hm
    rw [← rdDuty l0 k hlt, ← rdDuty l1 k hm] at hs
    have HF := Aside0.mk (cd_f (rd_L31 l0 (k : Int)) (rd_L31 l1 (k : Int)))
    have L0 := Aside0.mk hl0
    have L1 := Aside0.mk hl1
    have I0 := Aside0.mk hi0
    have I1 := Aside0.mk hi1
    clear hl0 hl1 hi0 hi1
    by_cases hn : cmpL cmpT (rd_L31 l0 (k : Int)) (rd_L31 l1 (k : Int)) = 0
    ·rw [if_pos hn, ← HA.out] at hs
     have HS := Aside0.mk hs
     have HK := Aside0.mk (And.intro hlt hm)
     have b3 : (cmpL cmpT (rd_L31 l0 (k : Int)) (rd_L31 l1 (k : Int)) != 0) = false := bne_eq_false_iff_eq.mpr hn
     clear hs hn
     go_wp2_with (first | (go_at_call 15; (refine (measure_CompareDuties.calls _ _ _ _ _ _ _ _ I0.out L0.out I1.out L1.out HF.out).mono ?_); rintro e w1 ⟨rfl, hb⟩; have HB1 := Aside0.mk (below_step HB.out hb); clear hb))
     exact ⟨⟨k + 1, by have := HK.out; omega, by have := HK.out; omega, by go_num, ⟨HS.out⟩, HB1⟩, by have := HK.out; simp [intOf]; omega⟩
    ·rw [if_neg hn, ← HA.out] at hs
     have HS := Aside0.mk hs
     have b3 : (cmpL cmpT (rd_L31 l0 (k : Int)) (rd_L31 l1 (k : Int)) != 0) = true := bne_iff_ne.mpr hn
     clear hs hn
     go_wp2_with (first | (go_at_call 15; (refine (measure_CompareDuties.calls _ _ _ _ _ _ _ _ I0.out L0.out I1.out L1.out HF.out).mono ?_); rintro e w1 ⟨rfl, hb⟩; have HB1 := Aside0.mk (below_step HB.out hb); clear hb))
     go_ret
     exact ⟨by rw [HS.out]; rfl, HB1.out⟩
   ·have b2 : decide ((k : Int) ≥ (l1.length : Int)) = true := decide_eq_true (by omega)
    have HE := Aside0.mk (HA.out.trans (cmpL_end (cmpL cmpT) l0 l1 k hlt hm))
    go_wp2_with fail
    go_ret
    exact ⟨by rw [HE.out]; rfl, HB.out⟩
  ·have b1 : decide ((k : Int) < (l0.length : Int)) = false := decide_eq_false (by omega)
   have he := HA.out.trans (cmpL_done (cmpL cmpT) l0 l1 k (by omega))
   obtain rfl : k = l0.length := by omega
   by_cases hm : l0.length < l1.length
   ·rw [if_pos hm] at he
    have HE := Aside0.mk he
    have b2 : decide ((l0.length : Int) < (l1.length : Int)) = true := decide_eq_true (by omega)
    clear he
    go_wp2_with fail
    go_ret
    exact ⟨by rw [HE.out]; rfl, HB.out⟩
   ·rw [if_neg hm] at he
    have HE := Aside0.mk he
    have b2 : decide ((l0.length : Int) < (l1.length : Int)) = false := decide_eq_false (by omega)
    clear he
    go_wp2_with fail
    go_ret
    exact ⟨by rw [HE.out]; rfl, HB.out⟩
end Go.Proofs.YtilnppdognejbaaGreatDoor.P
namespace Go.Proofs.YtilnppdognejbaaGreatDoor.P
open Go.RowKit Go.Proofs.YtilnppdognejbaaGreatDoorW.PrintWords Go.Proofs.YtilnppdognejbaaGreatDoorW.PrintLast Go.Proofs.YtilnppdognejbaaGreatDoorW.PrintMore
attribute [local go_sem] max2_int min2_int max_two min_two max_three min_three max_four min_four   -- for this text's walks alone
set_option linter.unusedVariables false
set_option linter.unusedSimpArgs false
def cmp_Or_int.l0 : Nat → Int → List Int → Int → Int → Option (Int)
 | 0, _, _, _, _ => none
 | k + 1, x3, x6, x7, x8 => if x8 < x7 then (if 0 ≤ x8 then (if x8 < (x6.length : Int) then (if (rd x6 x8) = x3 then (cmp_Or_int.l0 k x3 x6 x7 (wrap64 (x8 + 1))) else (some (rd x6 x8))) else (none)) else (none)) else (some x3)
def cmp_Or_int.f (k : Nat) (l0 : List Int) : Option (Int) := cmp_Or_int.l0 k 0 l0 (l0.length : Int) 0
set_option maxHeartbeats 8000000 in
set_option maxRecDepth 100000 in
theorem cmp_Or_int.calls (k : Nat) (A0 : Option Addr) (c0 : Nat) (l0 : List Int) (r : Int) (w : World) (hr0 : Kd.C (Kd.int .i64) w A0 l0.length l0) (hc0 : l0.length ≤ c0) (h : cmp_Or_int.f k l0 = some r) :
  Calls Tryz.prog 38 #[.slice A0 l0.length c0] w fun e w' => e = .returned (.int .i64 r) ∧ Drawn0 w w' := by
 have HR0 := Aside0.mk hr0
 have HC0 := Aside0.mk hc0
 clear hr0 hc0
 have H : (cmp_Or_int.l0 k 0 l0 (l0.length : Int) 0) = some r := h
 clear h
 have H' := Aside0.mk H
 clear H
 go_enter Tryz.func38, Tryz.ntmps38
 go_wp2
 go_loopg [8] k (fun kq v8 w' => ∃ (x8_1 : Int), v8 = .int .i64 x8_1 ∧ Aside0 (cmp_Or_int.l0 kq 0 l0 (l0.length : Int) x8_1 = some r) ∧ Aside0 (kq ≤ k) ∧ Drawn0 w w')
 case atStart => exact ⟨(0), (by first | rfl | (simp; done) | (simp [*]; done)), H', ⟨Nat.le_refl _⟩, by repeat (first | exact Drawn0.refl _ | apply Drawn0.step)⟩
 case round =>
  clear H'
  obtain ⟨x8_1, rfl, HA, HK1, ⟨m1, rfl⟩⟩ := hrel
  cases gk with
  | zero => exact absurd HA.out (by simp [cmp_Or_int.l0])
  | succ k1 =>
   have H := HA.out
   clear HA
   simp only [cmp_Or_int.l0] at H
   by_cases c2 : x8_1 < (l0.length : Int)
   ·rw [if_pos c2] at H
    have c2b0 : decide (x8_1 < (l0.length : Int)) = true := decide_eq_true c2
    clear c2
    by_cases c3 : 0 ≤ x8_1
    ·rw [if_pos c3] at H
     have c3b0 : decide (0 ≤ x8_1) = true := decide_eq_true c3
     clear c3
     by_cases c4 : x8_1 < (l0.length : Int)
     ·rw [if_pos c4] at H
      have c4b0 : decide (x8_1 < (l0.length : Int)) = true := decide_eq_true c4
      clear c4
      by_cases c5 : (rd l0 x8_1) = 0
      ·rw [if_pos c5] at H
       have c5b0 : ((rd l0 x8_1) == 0) = true := beq_iff_eq.mpr c5
       have c5b1 : ((rd l0 x8_1) != 0) = false := bne_eq_false_iff_eq.mpr c5
       clear c5
       have H' := Aside0.mk H
       clear H
       have p377 : 0 ≤ (x8_1 : Int) := of_decide_eq_true (by first | (with_reducible assumption) | assumption)
       have q377 : x8_1 < (l0.length : Int) := of_decide_eq_true (by first | (with_reducible assumption) | assumption)
       obtain ⟨ad377, e377, hx377_0⟩ := Kd.at_int HR0.out x8_1 p377 q377
       cases e377
       replace p377 := eq_true p377
       replace q377 := eq_true q377
       go_wp2
       go_roundg k1
       case measure => have := HK1.out; omega
       case rel => exact ⟨(wrap64 (x8_1 + 1)), (by first | rfl | (simp; done) | (simp [*]; done)), H', ⟨by have := HK1.out; omega⟩, by repeat (first | exact Drawn0.refl _ | apply Drawn0.step)⟩
      ·rw [if_neg c5] at H
       have c5b0 : ((rd l0 x8_1) == 0) = false := beq_eq_false_iff_ne.mpr c5
       have c5b1 : ((rd l0 x8_1) != 0) = true := bne_iff_ne.mpr c5
       obtain rfl := Option.some.inj H
       have p377 : 0 ≤ (x8_1 : Int) := of_decide_eq_true (by first | (with_reducible assumption) | assumption)
       have q377 : x8_1 < (l0.length : Int) := of_decide_eq_true (by first | (with_reducible assumption) | assumption)
       obtain ⟨ad377, e377, hx377_0⟩ := Kd.at_int HR0.out x8_1 p377 q377
       cases e377
       replace p377 := eq_true p377
       replace q377 := eq_true q377
       go_wp2
       go_ret
       exact ⟨by first | rfl | (simp; done) | (simp [*]; done), by repeat (first | exact Drawn0.refl _ | apply Drawn0.step)⟩
     ·rw [if_neg c4] at H
      exact absurd H (by simp)
    ·rw [if_neg c3] at H
     exact absurd H (by simp)
   ·rw [if_neg c2] at H
    have c2b0 : decide (x8_1 < (l0.length : Int)) = false := decide_eq_false c2
    clear c2
    obtain rfl := Option.some.inj H
    go_wp2
    go_ret
    exact ⟨by first | rfl | (simp; done) | (simp [*]; done), by repeat (first | exact Drawn0.refl _ | apply Drawn0.step)⟩
end Go.Proofs.YtilnppdognejbaaGreatDoor.P
namespace Go.Proofs.YtilnppdognejbaaGreatDoor.P
open Go.RowKit Go.Proofs.YtilnppdognejbaaGreatDoorW.PrintWords Go.Proofs.YtilnppdognejbaaGreatDoorW.PrintLast Go.Proofs.YtilnppdognejbaaGreatDoorW.PrintMore
attribute [local go_sem] max2_int min2_int max_two min_two max_three min_three max_four min_four   -- for this text's walks alone
set_option linter.unusedVariables false
set_option linter.unusedSimpArgs false
def measure_ComparePairings.f (k : Nat) (a0_0 : ByteArray) (l0_1 : List (List (S50))) (a1_0 : ByteArray) (l1_1 : List (List (S50))) : Option (Int) := (strings_Compare.f a0_0 a1_0).bind fun t380 => ((api_Duty.f l0_1 l1_1).bind fun t381 => ((cmp_Or_int.f k (([t380, t381] : List Int))).bind fun t385 => (some t385)))
def measure_ComparePairings.T1 : Bool × List (List Nat × List Nat) := (true, [([], []), ([0], [0]), ([], []), ([2], [2]), ([1, 3], [1, 3]), ([], []), ([5], [5]), ([], []), ([7], [7]), ([6, 8, 4], [6, 8]), ([4, 9], [4, 9]), ([10, 9], [10]), ([11, 11, 0, 1, 2, 3, 4, 5, 6, 7, 8, 9, 10, 11], [11])])
def measure_ComparePairings.B1 : List Nat := [0, 1, 0, 4, 15, 0, 32, 0, 128, 511, 1023, 2047, 4095]
theorem measure_ComparePairings.tab1 : rtab .any (opsOf Tryz.f13 1) = measure_ComparePairings.T1 := by kernel_rfl
theorem measure_ComparePairings.bits1 : waitsOk measure_ComparePairings.T1.2 measure_ComparePairings.B1 = true := by kernel_rfl
set_option maxHeartbeats 8000000 in
set_option maxRecDepth 100000 in
theorem measure_ComparePairings.calls (k : Nat) (a0_0 : ByteArray) (A0_1 : Option Addr) (c0_1 : Nat) (l0_1 : List (List (S50))) (a1_0 : ByteArray) (A1_1 : Option Addr) (c1_1 : Nat) (l1_1 : List (List (S50))) (r : Int) (w : World) (hr0_1 : Kd.C (Kd.slice 50 k50) w A0_1 l0_1.length l0_1) (hc0_1 : l0_1.length ≤ c0_1) (hr1_1 : Kd.C (Kd.slice 50 k50) w A1_1 l1_1.length l1_1) (hc1_1 : l1_1.length ≤ c1_1) (h : measure_ComparePairings.f k a0_0 l0_1 a1_0 l1_1 = some r) :
  Calls Tryz.prog 13 #[.agg #[.string a0_0, .slice A0_1 l0_1.length c0_1], .agg #[.string a1_0, .slice A1_1 l1_1.length c1_1]] w fun e w' => e = .returned (.int .i64 r) ∧ Below w.heap.size w w' := by
 have hu43 := Tryz.underlying43
 have HR0_1 := Aside0.mk hr0_1
 have HC0_1 := Aside0.mk hc0_1
 clear hr0_1 hc0_1
 have HR1_1 := Aside0.mk hr1_1
 have HC1_1 := Aside0.mk hc1_1
 clear hr1_1 hc1_1
 have HB := Aside0.mk (Below.refl w.heap.size w)
 have H : ((strings_Compare.f a0_0 a1_0).bind fun t380 => ((api_Duty.f l0_1 l1_1).bind fun t381 => ((cmp_Or_int.f k (([t380, t381] : List Int))).bind fun t385 => (some t385)))) = some r := h
 clear h
 replace H := Option.bind_eq_some_iff.mp H
 obtain ⟨t380, A30, H⟩ := H
 replace H : ((api_Duty.f l0_1 l1_1).bind fun t381 => ((cmp_Or_int.f k (([t380, t381] : List Int))).bind fun t385 => (some t385))) = some r := H
 have A3 := Aside0.mk A30
 clear A30
 replace H := Option.bind_eq_some_iff.mp H
 obtain ⟨t381, A40, H⟩ := H
 replace H : ((cmp_Or_int.f k (([t380, t381] : List Int))).bind fun t385 => (some t385)) = some r := H
 have A4 := Aside0.mk A40
 clear A40
 obtain ⟨y382, hy382⟩ : ∃ y_ : List Int, y_ = (([t380, t381] : List Int)) := ⟨_, rfl⟩
 replace H : ((cmp_Or_int.f k y382).bind fun t385 => (some t385)) = some r := by first | (rw [hy382]; with_reducible exact H) | (have H2_ := (Option.bind_some _ _).symm.trans H; rw [hy382]; with_reducible exact H2_) | (have H2_ := (Option.bind_some _ _).symm.trans H; with_reducible exact H2_) | with_reducible exact H | (rw [hy382]; exact H) | exact H
 have Ny382 := Aside0.mk hy382
 clear hy382
 replace H := Option.bind_eq_some_iff.mp H
 obtain ⟨t385, A50, H⟩ := H
 replace H : (some t385) = some r := H
 have A5 := Aside0.mk A50
 clear A50
 obtain rfl := Option.some.inj H
 go_enter Tryz.func13, Tryz.ntmps13
 try go_wp2_with (first | ((with_reducible refine gate_dst (N := 2) rfl ?_); refine box_event ?hg (N := 2) ?hd (cs := #[.string a0_0, .slice A0_1 l0_1.length c0_1]) (t := 43) ?hr ?_; (case hd => rfl); (case hg => rfl); (case hr => first | (go_simp; done) | (go_simp; rfl)); intro gb378 hg w6 hbox hb; have BK378 := Aside0.mk hbox; have GE378 := Aside0.mk ((by rw [hg]; exact (below_size hbk) : w.heap.size ≤ gb378)); replace HB := Aside0.mk (below_step hbk hb); clear hb hbox hg) | ((with_reducible refine gate_dst (N := 3) rfl ?_); refine box_event ?hg (N := 3) ?hd (cs := #[.string a1_0, .slice A1_1 l1_1.length c1_1]) (t := 43) ?hr ?_; (case hd => rfl); (case hg => rfl); (case hr => first | (go_simp; done) | (go_simp; rfl)); intro gb379 hg w7 hbox hb; have BK379 := Aside0.mk hbox; have GE379 := Aside0.mk ((by rw [hg]; exact (below_size hbk) : w.heap.size ≤ gb379)); have NB378_379 := Aside0.mk ((by rw [hg]; exact Nat.ne_of_lt (blk_ltB BK378.out) : gb378 ≠ gb379)); have NB379_378 := Aside0.mk ((by rw [hg]; exact Nat.ne_of_gt (blk_ltB BK378.out) : gb379 ≠ gb378)); replace BK378 := Aside0.mk (blk_belowB BK378.out hb); replace HB := Aside0.mk (below_step hbk hb); clear hb hbox hg))
 replace BK378 := Aside0.mk (blk_drew BK378.out)
 replace BK379 := Aside0.mk (blk_drew BK379.out)
 replace HB := Aside0.mk (below_drew1 HB.out)
 have HSo0 := Aside0.mk (held_of2 BK378.out BK379.out (S := fun w' => w'.cell? ⟨gb378, 0, none⟩ = some (.string a0_0) ∧ w'.cell? ⟨gb378, 1, none⟩ = some (.slice A0_1 l0_1.length c0_1) ∧ w'.cell? ⟨gb379, 0, none⟩ = some (.string a1_0) ∧ w'.cell? ⟨gb379, 1, none⟩ = some (.slice A1_1 l1_1.length c1_1)) (fun X hBK378 hBK379 => ⟨(blk_cell hBK378 0).trans rfl, (blk_cell hBK378 1).trans rfl, (blk_cell hBK379 0).trans rfl, (blk_cell hBK379 1).trans rfl⟩))
 refine start_ (n := 13) (S := fun w' => w'.cell? ⟨gb378, 0, none⟩ = some (.string a0_0) ∧ w'.cell? ⟨gb378, 1, none⟩ = some (.slice A0_1 l0_1.length c0_1) ∧ w'.cell? ⟨gb379, 0, none⟩ = some (.string a1_0) ∧ w'.cell? ⟨gb379, 1, none⟩ = some (.slice A1_1 l1_1.length c1_1)) (ds := []) #[false, false, false, false, false, false, false, false, false, false, false, false, false] (by kernel_rfl) rfl rfl (HSo0.out _ BK378.out BK379.out) (fun hHeld => ?_); refine with_tabW measure_ComparePairings.tab1 measure_ComparePairings.bits1 (fun HT_ HW_ => ?_)
 generalize w7.drew = w8 at BK378 BK379 HB hHeld ⊢
 refine pure_ (i := 0) (N := some 5) (v := ?_) (a' := ?_) #[true, false, false, false, false, false, false, false, false, false, false, false, false] rfl rfl (any_of HT_.out (by kernel_rfl)) (fun _ _ _ h => h) (Or.inl ⟨by rfl, ?_⟩) ?_ ?_
 rotate_left
 ·intro w'
  go_simp
  with_reducible rfl
 rotate_left
 ·simp only [Act.put, List.setIfInBounds_toArray, List.set_cons_zero, List.set_cons_succ, i64_w, i32_w]
  rfl
 refine pure_ (i := 2) (N := some 7) (v := ?_) (a' := ?_) #[true, false, true, false, false, false, false, false, false, false, false, false, false] rfl rfl (any_of HT_.out (by kernel_rfl)) (fun _ _ _ h => h) (Or.inl ⟨by rfl, ?_⟩) ?_ ?_
 rotate_left
 ·intro w'
  go_simp
  with_reducible rfl
 rotate_left
 ·simp only [Act.put, List.setIfInBounds_toArray, List.set_cons_zero, List.set_cons_succ, i64_w, i32_w]
  rfl
 refine pure_ (i := 5) (N := some 10) (v := ?_) (a' := ?_) #[true, false, true, false, false, true, false, false, false, false, false, false, false] rfl rfl (any_of HT_.out (by kernel_rfl)) (fun _ _ _ h => h) (Or.inl ⟨by rfl, ?_⟩) ?_ ?_
 rotate_left
 ·intro w'
  go_simp
  with_reducible rfl
 rotate_left
 ·simp only [Act.put, List.setIfInBounds_toArray, List.set_cons_zero, List.set_cons_succ, i64_w, i32_w]
  rfl
 refine pure_ (i := 7) (N := some 12) (v := ?_) (a' := ?_) #[true, false, true, false, false, true, false, true, false, false, false, false, false] rfl rfl (any_of HT_.out (by kernel_rfl)) (fun _ _ _ h => h) (Or.inl ⟨by rfl, ?_⟩) ?_ ?_
 rotate_left
 ·intro w'
  go_simp
  with_reducible rfl
 rotate_left
 ·simp only [Act.put, List.setIfInBounds_toArray, List.set_cons_zero, List.set_cons_succ, i64_w, i32_w]
  rfl
 refine take_ (i := 1) (N := some 6) (v := ?_) (a' := ?_) #[true, true, true, false, false, true, false, true, false, false, false, false, false] rfl rfl (take_ofW HT_.out HW_.out (by kernel_rfl)) (fun _ _ _ h => h) (Or.inl ⟨by rfl, ?_⟩) hHeld ?_ ?_
 rotate_left
 ·rintro w' ⟨s0, s1, s2, s3⟩
  go_simp
  with_reducible rfl
 rotate_left
 ·simp only [Act.put, List.setIfInBounds_toArray, List.set_cons_zero, List.set_cons_succ, i64_w, i32_w]
  rfl
 refine take_ (i := 3) (N := some 8) (v := ?_) (a' := ?_) #[true, true, true, true, false, true, false, true, false, false, false, false, false] rfl rfl (take_ofW HT_.out HW_.out (by kernel_rfl)) (fun _ _ _ h => h) (Or.inl ⟨by rfl, ?_⟩) hHeld ?_ ?_
 rotate_left
 ·rintro w' ⟨s0, s1, s2, s3⟩
  go_simp
  with_reducible rfl
 rotate_left
 ·simp only [Act.put, List.setIfInBounds_toArray, List.set_cons_zero, List.set_cons_succ, i64_w, i32_w]
  rfl
 refine take_ (i := 6) (N := some 11) (v := ?_) (a' := ?_) #[true, true, true, true, false, true, true, true, false, false, false, false, false] rfl rfl (take_ofW HT_.out HW_.out (by kernel_rfl)) (fun _ _ _ h => h) (Or.inl ⟨by rfl, ?_⟩) hHeld ?_ ?_
 rotate_left
 ·rintro w' ⟨s0, s1, s2, s3⟩
  go_simp
  with_reducible rfl
 rotate_left
 ·simp only [Act.put, List.setIfInBounds_toArray, List.set_cons_zero, List.set_cons_succ, i64_w, i32_w]
  rfl
 refine take_ (i := 8) (N := some 13) (v := ?_) (a' := ?_) #[true, true, true, true, false, true, true, true, true, false, false, false, false] rfl rfl (take_ofW HT_.out HW_.out (by kernel_rfl)) (fun _ _ _ h => h) (Or.inl ⟨by rfl, ?_⟩) hHeld ?_ ?_
 rotate_left
 ·rintro w' ⟨s0, s1, s2, s3⟩
  go_simp
  with_reducible rfl
 rotate_left
 ·simp only [Act.put, List.setIfInBounds_toArray, List.set_cons_zero, List.set_cons_succ, i64_w, i32_w]
  rfl
 refine one_ (i := 4) (N := some 9) #[true, true, true, true, true, true, true, true, true, false, false, false, false] rfl rfl (one_of HT_.out (by kernel_rfl)) (by decide) (fun K hK => ?_)
 refine goes_ Tryz.func39 (by kernel_rfl) rfl #[.string a0_0, .string a1_0] (by rfl) rfl rfl hgl ?_
 with_reducible refine (strings_Compare.calls a0_0 a1_0 t380 _ A3.out).mono ?_
 rintro e w' ⟨rfl, ⟨nd, rfl⟩⟩
 refine ⟨_, rfl, ?_⟩
 refine hK.out _ _ (HSo0.out _ BK378.out BK379.out) (fun hHeld => ?_)
 clear hK K
 refine norm_ (a' := ?_) ?_ ?_
 rotate_left
 ·show Act.put _ (some 9) _ = _
  simp only [Act.put, List.setIfInBounds_toArray, List.set_cons_zero, List.set_cons_succ, i64_w, i32_w]
  rfl
 refine one_ (i := 9) (N := some 14) #[true, true, true, true, true, true, true, true, true, true, false, false, false] rfl rfl (one_of HT_.out (by kernel_rfl)) (by decide) (fun K hK => ?_)
 refine goes_ Tryz.func40 (by kernel_rfl) rfl #[.slice A0_1 l0_1.length c0_1, .slice A1_1 l1_1.length c1_1, .func (.func 15) #[] #[]] (by rfl) rfl rfl hgl ?_
 with_reducible refine (api_Duty.calls _ _ l0_1 _ _ l1_1 t381 _ ?side1 ?side2 ?side3 ?side4 A4.out).mono ?_
 (case side1 => exact Kd.C_below HR0_1.out hbk)
 (case side2 => exact HC0_1.out)
 (case side3 => exact Kd.C_below HR1_1.out hbk)
 (case side4 => exact HC1_1.out)
 rintro e w9 ⟨rfl, hb⟩
 refine ⟨_, rfl, ?_⟩
 replace BK378 := Aside0.mk (blk_belowB BK378.out hb)
 replace BK379 := Aside0.mk (blk_belowB BK379.out hb)
 replace HB := Aside0.mk (below_step hbk hb)
 (try clear hb)
 (try clear hb2)
 (try clear hk)
 (try clear hi)
 refine hK.out _ _ (HSo0.out _ BK378.out BK379.out) (fun hHeld => ?_)
 clear hK K
 refine norm_ (a' := ?_) ?_ ?_
 rotate_left
 ·show Act.put _ (some 14) _ = _
  simp only [Act.put, List.setIfInBounds_toArray, List.set_cons_zero, List.set_cons_succ, i64_w, i32_w]
  rfl
 refine one_ (i := 10) (N := some 15) #[true, true, true, true, true, true, true, true, true, true, true, false, false] rfl rfl (one_of HT_.out (by kernel_rfl)) (by decide) (fun K hK => ?_)
 refine Kd.R_lit_step (Kd.int .i64) _ 3 ?hg (N := 15) ?hd (xs := ([t380, t381] : List Int)) (inner := [.int .i64 t380, .int .i64 t381]) (ok := fun _ => True) (okp := fun _ => True) ?hr ?hp (fun _ hk => hk) trivial (Below.refl _ _) (Nat.le_refl _) (by simp) ?_; (case hd => rfl); (case hg => rfl); (case hr => first | (go_simp; done) | (go_simp; rfl)); (case hp => exact (Reps.one (show Kd.M (Kd.int .i64) _ _ _ t380 [.int .i64 t380] from rfl) (Reps.one (show Kd.M (Kd.int .i64) _ _ _ t381 [.int .i64 t381] from rfl) (Reps.none _ _))))
 intro v383 w10 ho11 hb hg_ hnew_
 clear hg_ hnew_
 (first | rw [← Ny382.out] at ho11 | (simp only [Int.reduceToNat] at ho11; rw [← Ny382.out] at ho11))
 have HO384 := Aside0.mk (Kd.R_lower ho11 (below_size hbk))
 replace BK378 := Aside0.mk (blk_belowB BK378.out hb)
 replace BK379 := Aside0.mk (blk_belowB BK379.out hb)
 replace HB := Aside0.mk (below_step hbk hb)
 clear hb ho11
 obtain ⟨Ao12, co12, eo12⟩ := Kd.R_slice HO384.out
 (first | subst eo12 | (injection eo12 with f1_ f2_ f3_; have f4_ := f1_.symm; have f5_ := f3_.symm; clear f1_ f2_ f3_; subst f4_; subst f5_))
 refine hK.out _ _ (HSo0.out _ BK378.out BK379.out) (fun hHeld => ?_)
 clear hK K
 refine norm_ (a' := ?_) ?_ ?_
 rotate_left
 ·show Act.put _ (some 15) _ = _
  simp only [Act.put, List.setIfInBounds_toArray, List.set_cons_zero, List.set_cons_succ, i64_w, i32_w]
  rfl
 refine one_ (i := 11) (N := some 16) #[true, true, true, true, true, true, true, true, true, true, true, true, false] rfl rfl (one_of HT_.out (by kernel_rfl)) (by decide) (fun K hK => ?_)
 refine goes_ Tryz.func38 (by kernel_rfl) rfl #[.slice Ao12 y382.length co12] (by rfl) rfl rfl hgl ?_
 with_reducible refine (cmp_Or_int.calls k _ _ y382 t385 _ ?side1 ?side2 A5.out).mono ?_
 (case side1 => repeat (first | exact (Kd.R_reads' HO384.out).2.2 | (with_reducible refine Kd.C_alloc ?_ _) | (with_reducible refine Kd.C_drewN ?_ _) | (with_reducible refine Kd.C_drew ?_)))
 (case side2 => exact (Kd.R_reads' HO384.out).2.1)
 rintro e w' ⟨rfl, ⟨nd, rfl⟩⟩
 refine ⟨_, rfl, ?_⟩
 refine hK.out _ _ (HSo0.out _ BK378.out BK379.out) (fun hHeld => ?_)
 clear hK K
 refine norm_ (a' := ?_) ?_ ?_
 rotate_left
 ·show Act.put _ (some 16) _ = _
  simp only [Act.put, List.setIfInBounds_toArray, List.set_cons_zero, List.set_cons_succ, i64_w, i32_w]
  rfl
 refine pure_ (i := 12) (N := some 4) (v := ?_) (a' := ?_) #[true, true, true, true, true, true, true, true, true, true, true, true, true] rfl rfl (any_of HT_.out (by kernel_rfl)) (fun _ _ _ h => h) (Or.inl ⟨by rfl, ?_⟩) ?_ ?_
 rotate_left
 ·intro w'
  go_simp
  with_reducible rfl
 rotate_left
 ·simp only [Act.put, List.setIfInBounds_toArray, List.set_cons_zero, List.set_cons_succ, i64_w, i32_w]
  rfl
 refine done_ (done_of HT_.out (by kernel_rfl)) ?_
 try go_wp2
 go_ret
 exact ⟨hrf, hbk⟩
end Go.Proofs.YtilnppdognejbaaGreatDoor.P
namespace Go.Proofs.YtilnppdognejbaaGreatDoor.P
open Go.RowKit Go.Proofs.YtilnppdognejbaaGreatDoorW.PrintWords Go.Proofs.YtilnppdognejbaaGreatDoorW.PrintLast Go.Proofs.YtilnppdognejbaaGreatDoorW.PrintMore
attribute [local go_sem] max2_int min2_int max_two min_two max_three min_three max_four min_four   -- for this text's walks alone
set_option linter.unusedVariables false
set_option linter.unusedSimpArgs false
def pairingref14_flag.f (a0 : Bool) : Option (Int) := if a0 = true then (some 1) else (some 0)
set_option maxHeartbeats 8000000 in
set_option maxRecDepth 100000 in
theorem pairingref14_flag.calls (a0 : Bool) (r : Int) (w : World) (h : pairingref14_flag.f a0 = some r) :
  Calls Tryz.prog 64 #[.bool a0] w fun e w' => e = .returned (.int .i64 r) ∧ Drawn0 w w' := by
 have H : (if a0 = true then (some 1) else (some 0)) = some r := h
 clear h
 by_cases c2 : a0 = true
 ·subst c2
  have H1 : (some 1) = some r := by rw [if_pos rfl] at H; exact H
  clear H
  have H := H1
  clear H1
  obtain rfl := Option.some.inj H
  go_enter Tryz.func64, Tryz.ntmps64
  go_wp2
  go_ret
  exact ⟨by first | rfl | (simp; done) | (simp [*]; done), by repeat (first | exact Drawn0.refl _ | apply Drawn0.step)⟩
 ·replace c2 := Bool.eq_false_iff.mpr c2
  subst c2
  have H1 : (some 0) = some r := by rw [if_neg (show ¬ (false = true) by decide)] at H; exact H
  clear H
  have H := H1
  clear H1
  obtain rfl := Option.some.inj H
  go_enter Tryz.func64, Tryz.ntmps64
  go_wp2
  go_ret
  exact ⟨by first | rfl | (simp; done) | (simp [*]; done), by repeat (first | exact Drawn0.refl _ | apply Drawn0.step)⟩
end Go.Proofs.YtilnppdognejbaaGreatDoor.P
namespace Go.Proofs.YtilnppdognejbaaGreatDoor.P
open Go.RowKit Go.Proofs.YtilnppdognejbaaGreatDoorW.PrintWords Go.Proofs.YtilnppdognejbaaGreatDoorW.PrintLast Go.Proofs.YtilnppdognejbaaGreatDoorW.PrintMore
attribute [local go_sem] max2_int min2_int max_two min_two max_three min_three max_four min_four   -- for this text's walks alone
set_option linter.unusedVariables false
set_option linter.unusedSimpArgs false
def pairingref14_compare.f (a0 : Int) (a1 : Int) : Option (Int) := if a0 < a1 then (some (-1)) else ((pairingref14_flag.f (decide (a0 > a1))).bind fun t386 => (some t386))
set_option maxHeartbeats 8000000 in
set_option maxRecDepth 100000 in
theorem pairingref14_compare.calls (a0 : Int) (a1 : Int) (r : Int) (w : World) (h : pairingref14_compare.f a0 a1 = some r) :
  Calls Tryz.prog 41 #[.int .i64 a0, .int .i64 a1] w fun e w' => e = .returned (.int .i64 r) ∧ Drawn0 w w' := by
 have H : (if a0 < a1 then (some (-1)) else ((pairingref14_flag.f (decide (a0 > a1))).bind fun t386 => (some t386))) = some r := h
 clear h
 by_cases c3 : a0 < a1
 ·rw [if_pos c3] at H
  have c3b0 : decide (a0 < a1) = true := decide_eq_true c3
  clear c3
  obtain rfl := Option.some.inj H
  go_enter Tryz.func41, Tryz.ntmps41
  go_wp2
  go_ret
  exact ⟨by first | rfl | (simp; done) | (simp [*]; done), by repeat (first | exact Drawn0.refl _ | apply Drawn0.step)⟩
 ·rw [if_neg c3] at H
  have c3b0 : decide (a0 < a1) = false := decide_eq_false c3
  clear c3
  replace H := Option.bind_eq_some_iff.mp H
  obtain ⟨t386, A40, H⟩ := H
  replace H : (some t386) = some r := H
  have A4 := Aside0.mk A40
  clear A40
  obtain rfl := Option.some.inj H
  go_enter Tryz.func41, Tryz.ntmps41
  go_wp2_with (first | ((with_reducible refine gate_callee (f := 64) rfl ?_); refine goesL_ (some 11) rfl rfl Tryz.func64 (by kernel_rfl) rfl #[.bool (decide (a0 > a1))] rfl hgl ?_; (with_reducible refine (pairingref14_flag.calls (decide (a0 > a1)) t386 _ A4.out).mono ?_); rintro e w' ⟨rfl, ⟨nd, rfl⟩⟩; refine ⟨_, rfl, ?_⟩))
  go_ret
  exact ⟨by first | rfl | (simp; done) | (simp [*]; done), by repeat (first | exact Drawn0.refl _ | apply Drawn0.step)⟩
end Go.Proofs.YtilnppdognejbaaGreatDoor.P
namespace Go.Proofs.YtilnppdognejbaaGreatDoor.P
open Go.RowKit Go.Proofs.YtilnppdognejbaaGreatDoorW.PrintWords Go.Proofs.YtilnppdognejbaaGreatDoorW.PrintLast Go.Proofs.YtilnppdognejbaaGreatDoorW.PrintMore
attribute [local go_sem] max2_int min2_int max_two min_two max_three min_three max_four min_four   -- for this text's walks alone
set_option linter.unusedVariables false
set_option linter.unusedSimpArgs false
def pairingref14_compareTasks.f (a0_0 : Int) (a0_1 : Bool) (a1_0 : Int) (a1_1 : Bool) : Option (Int) := if a0_0 = a1_0 then ((pairingref14_flag.f a0_1).bind fun t389 => ((pairingref14_flag.f a1_1).bind fun t390 => (some (wrap64 (t389 - t390))))) else (if a0_0 < a1_0 then (some (-1)) else (some 1))
set_option maxHeartbeats 8000000 in
set_option maxRecDepth 100000 in
theorem pairingref14_compareTasks.calls (a0_0 : Int) (a0_1 : Bool) (a1_0 : Int) (a1_1 : Bool) (r : Int) (w : World) (h : pairingref14_compareTasks.f a0_0 a0_1 a1_0 a1_1 = some r) :
  Calls Tryz.prog 44 #[.agg #[.int .i64 a0_0, .bool a0_1], .agg #[.int .i64 a1_0, .bool a1_1]] w fun e w' => e = .returned (.int .i64 r) ∧ Below w.heap.size w w' := by
 have hu50 := Tryz.underlying50
 have HB := Aside0.mk (Below.refl w.heap.size w)
 have H : (if a0_0 = a1_0 then ((pairingref14_flag.f a0_1).bind fun t389 => ((pairingref14_flag.f a1_1).bind fun t390 => (some (wrap64 (t389 - t390))))) else (if a0_0 < a1_0 then (some (-1)) else (some 1))) = some r := h
 clear h
 by_cases c3 : a0_0 = a1_0
 ·rw [if_pos c3] at H
  have c3b0 : (a0_0 == a1_0) = true := beq_iff_eq.mpr c3
  have c3b1 : (a0_0 != a1_0) = false := bne_eq_false_iff_eq.mpr c3
  clear c3
  replace H := Option.bind_eq_some_iff.mp H
  obtain ⟨t389, A40, H⟩ := H
  replace H : ((pairingref14_flag.f a1_1).bind fun t390 => (some (wrap64 (t389 - t390)))) = some r := H
  have A4 := Aside0.mk A40
  clear A40
  replace H := Option.bind_eq_some_iff.mp H
  obtain ⟨t390, A50, H⟩ := H
  replace H : (some (wrap64 (t389 - t390))) = some r := H
  have A5 := Aside0.mk A50
  clear A50
  obtain rfl := Option.some.inj H
  go_enter Tryz.func44, Tryz.ntmps44
  go_wp2_with (first | ((with_reducible refine gate_dst (N := 2) rfl ?_); refine box_event ?hg (N := 2) ?hd (cs := #[.int .i64 a0_0, .bool a0_1]) (t := 50) ?hr ?_; (case hd => rfl); (case hg => rfl); (case hr => first | (go_simp; done) | (go_simp; rfl)); intro gb387 hg w6 hbox hb; have BK387 := Aside0.mk hbox; have GE387 := Aside0.mk ((by rw [hg]; exact (below_size hbk) : w.heap.size ≤ gb387)); replace HB := Aside0.mk (below_step hbk hb); clear hb hbox hg) | ((with_reducible refine gate_dst (N := 3) rfl ?_); refine box_event ?hg (N := 3) ?hd (cs := #[.int .i64 a1_0, .bool a1_1]) (t := 50) ?hr ?_; (case hd => rfl); (case hg => rfl); (case hr => first | (go_simp; done) | (go_simp; rfl)); intro gb388 hg w7 hbox hb; have BK388 := Aside0.mk hbox; have GE388 := Aside0.mk ((by rw [hg]; exact (below_size hbk) : w.heap.size ≤ gb388)); have NB387_388 := Aside0.mk ((by rw [hg]; exact Nat.ne_of_lt (blk_ltB BK387.out) : gb387 ≠ gb388)); have NB388_387 := Aside0.mk ((by rw [hg]; exact Nat.ne_of_gt (blk_ltB BK387.out) : gb388 ≠ gb387)); replace BK387 := Aside0.mk (blk_belowB BK387.out hb); replace HB := Aside0.mk (below_step hbk hb); clear hb hbox hg; have hnb8 := NB387_388.out; have hnc8 := NB388_387.out; obtain ⟨hcz9_0, hcz9_1⟩ := blk_cs2 BK387.out; obtain ⟨hfz9_0, hfz9_1⟩ := blk_fs2 BK387.out; obtain ⟨hcz10_0, hcz10_1⟩ := blk_cs2 BK388.out; obtain ⟨hfz10_0, hfz10_1⟩ := blk_fs2 BK388.out) | (go_at_call 64; (with_reducible refine (pairingref14_flag.calls a0_1 t389 _ A4.out).mono ?_); rintro e w' ⟨rfl, ⟨nd, rfl⟩⟩; (try first | exact ⟨rfl, _, World.drewN_drewN _ _ _⟩ | exact ⟨rfl, _, Eq.trans (World.drewN_drewN _ _ _) (congrArg (World.drewN _) (Nat.add_assoc _ _ _))⟩)) | (go_at_call 64; (with_reducible refine (pairingref14_flag.calls a1_1 t390 _ A5.out).mono ?_); rintro e w' ⟨rfl, ⟨nd, rfl⟩⟩; (try first | exact ⟨rfl, _, World.drewN_drewN _ _ _⟩ | exact ⟨rfl, _, Eq.trans (World.drewN_drewN _ _ _) (congrArg (World.drewN _) (Nat.add_assoc _ _ _))⟩)))
  repeat (go_quiet (first | ((with_reducible refine gate_dst (N := 2) rfl ?_); refine box_event ?hg (N := 2) ?hd (cs := #[.int .i64 a0_0, .bool a0_1]) (t := 50) ?hr ?_; (case hd => rfl); (case hg => rfl); (case hr => first | (go_simp; done) | (go_simp; rfl)); intro gb387 hg w6 hbox hb; have BK387 := Aside0.mk hbox; have GE387 := Aside0.mk ((by rw [hg]; exact (below_size hbk) : w.heap.size ≤ gb387)); replace HB := Aside0.mk (below_step hbk hb); clear hb hbox hg) | ((with_reducible refine gate_dst (N := 3) rfl ?_); refine box_event ?hg (N := 3) ?hd (cs := #[.int .i64 a1_0, .bool a1_1]) (t := 50) ?hr ?_; (case hd => rfl); (case hg => rfl); (case hr => first | (go_simp; done) | (go_simp; rfl)); intro gb388 hg w7 hbox hb; have BK388 := Aside0.mk hbox; have GE388 := Aside0.mk ((by rw [hg]; exact (below_size hbk) : w.heap.size ≤ gb388)); have NB387_388 := Aside0.mk ((by rw [hg]; exact Nat.ne_of_lt (blk_ltB BK387.out) : gb387 ≠ gb388)); have NB388_387 := Aside0.mk ((by rw [hg]; exact Nat.ne_of_gt (blk_ltB BK387.out) : gb388 ≠ gb387)); replace BK387 := Aside0.mk (blk_belowB BK387.out hb); replace HB := Aside0.mk (below_step hbk hb); clear hb hbox hg; have hnb8 := NB387_388.out; have hnc8 := NB388_387.out; obtain ⟨hcz9_0, hcz9_1⟩ := blk_cs2 BK387.out; obtain ⟨hfz9_0, hfz9_1⟩ := blk_fs2 BK387.out; obtain ⟨hcz10_0, hcz10_1⟩ := blk_cs2 BK388.out; obtain ⟨hfz10_0, hfz10_1⟩ := blk_fs2 BK388.out) | (go_at_call 64; (with_reducible refine (pairingref14_flag.calls a0_1 t389 _ A4.out).mono ?_); rintro e w' ⟨rfl, ⟨nd, rfl⟩⟩; (try first | exact ⟨rfl, _, World.drewN_drewN _ _ _⟩ | exact ⟨rfl, _, Eq.trans (World.drewN_drewN _ _ _) (congrArg (World.drewN _) (Nat.add_assoc _ _ _))⟩)) | (go_at_call 64; (with_reducible refine (pairingref14_flag.calls a1_1 t390 _ A5.out).mono ?_); rintro e w' ⟨rfl, ⟨nd, rfl⟩⟩; (try first | exact ⟨rfl, _, World.drewN_drewN _ _ _⟩ | exact ⟨rfl, _, Eq.trans (World.drewN_drewN _ _ _) (congrArg (World.drewN _) (Nat.add_assoc _ _ _))⟩))); try go_wp2_with (first | ((with_reducible refine gate_dst (N := 2) rfl ?_); refine box_event ?hg (N := 2) ?hd (cs := #[.int .i64 a0_0, .bool a0_1]) (t := 50) ?hr ?_; (case hd => rfl); (case hg => rfl); (case hr => first | (go_simp; done) | (go_simp; rfl)); intro gb387 hg w6 hbox hb; have n0_ := Aside0.mk (below_step hbk hb); have n1_ := Aside0.mk hbox; have n2_ := Aside0.mk ((by rw [hg]; exact (below_size hbk) : w.heap.size ≤ gb387)); have n3_ := Aside0.mk ((by rw [hg]; exact (below_size hbk) : w.heap.size ≤ gb387)); clear HB; have HB := n0_; have BK387 := n1_; have GW387 := n2_; have GE387 := n3_; clear n0_ n1_ n2_ n3_; clear hb hbox hg) | ((with_reducible refine gate_dst (N := 3) rfl ?_); refine box_event ?hg (N := 3) ?hd (cs := #[.int .i64 a1_0, .bool a1_1]) (t := 50) ?hr ?_; (case hd => rfl); (case hg => rfl); (case hr => first | (go_simp; done) | (go_simp; rfl)); intro gb388 hg w7 hbox hb; have n0_ := Aside0.mk (blk_belowB BK387.out hb); have n1_ := Aside0.mk (below_step hbk hb); have n2_ := Aside0.mk hbox; have n3_ := Aside0.mk ((by rw [hg]; exact (below_size hbk) : w.heap.size ≤ gb388)); have n4_ := Aside0.mk ((by rw [hg]; exact (below_size hbk) : w.heap.size ≤ gb388)); have n5_ := Aside0.mk ((by rw [hg]; exact Nat.ne_of_lt (blk_ltB BK387.out) : gb387 ≠ gb388)); have n6_ := Aside0.mk ((by rw [hg]; exact Nat.ne_of_gt (blk_ltB BK387.out) : gb388 ≠ gb387)); clear BK387; clear HB; have BK387 := n0_; have HB := n1_; have BK388 := n2_; have GW388 := n3_; have GE388 := n4_; have NB387_388 := n5_; have NB388_387 := n6_; clear n0_ n1_ n2_ n3_ n4_ n5_ n6_; clear hb hbox hg; have hnb8 := NB387_388.out; have hnc8 := NB388_387.out; obtain ⟨hcz9_0, hcz9_1⟩ := blk_cs2 BK387.out; obtain ⟨hfz9_0, hfz9_1⟩ := blk_fs2 BK387.out; obtain ⟨hcz10_0, hcz10_1⟩ := blk_cs2 BK388.out; obtain ⟨hfz10_0, hfz10_1⟩ := blk_fs2 BK388.out) | (go_at_call 64; (with_reducible refine (pairingref14_flag.calls a0_1 t389 _ A4.out).mono ?_); rintro e w' ⟨rfl, ⟨nd, rfl⟩⟩; (try first | exact ⟨rfl, _, World.drewN_drewN _ _ _⟩ | exact ⟨rfl, _, Eq.trans (World.drewN_drewN _ _ _) (congrArg (World.drewN _) (Nat.add_assoc _ _ _))⟩)) | (go_at_call 64; (with_reducible refine (pairingref14_flag.calls a1_1 t390 _ A5.out).mono ?_); rintro e w' ⟨rfl, ⟨nd, rfl⟩⟩; (try first | exact ⟨rfl, _, World.drewN_drewN _ _ _⟩ | exact ⟨rfl, _, Eq.trans (World.drewN_drewN _ _ _) (congrArg (World.drewN _) (Nat.add_assoc _ _ _))⟩))))
  go_ret
  exact ⟨hrf, hbk⟩
 ·rw [if_neg c3] at H
  have c3b0 : (a0_0 == a1_0) = false := beq_eq_false_iff_ne.mpr c3
  have c3b1 : (a0_0 != a1_0) = true := bne_iff_ne.mpr c3
  by_cases c11 : a0_0 < a1_0
  ·rw [if_pos c11] at H
   have c11b0 : decide (a0_0 < a1_0) = true := decide_eq_true c11
   clear c11
   obtain rfl := Option.some.inj H
   go_enter Tryz.func44, Tryz.ntmps44
   go_wp2_with (first | ((with_reducible refine gate_dst (N := 2) rfl ?_); refine box_event ?hg (N := 2) ?hd (cs := #[.int .i64 a0_0, .bool a0_1]) (t := 50) ?hr ?_; (case hd => rfl); (case hg => rfl); (case hr => first | (go_simp; done) | (go_simp; rfl)); intro gb387 hg w12 hbox hb; have BK387 := Aside0.mk hbox; have GE387 := Aside0.mk ((by rw [hg]; exact (below_size hbk) : w.heap.size ≤ gb387)); replace HB := Aside0.mk (below_step hbk hb); clear hb hbox hg) | ((with_reducible refine gate_dst (N := 3) rfl ?_); refine box_event ?hg (N := 3) ?hd (cs := #[.int .i64 a1_0, .bool a1_1]) (t := 50) ?hr ?_; (case hd => rfl); (case hg => rfl); (case hr => first | (go_simp; done) | (go_simp; rfl)); intro gb388 hg w13 hbox hb; have BK388 := Aside0.mk hbox; have GE388 := Aside0.mk ((by rw [hg]; exact (below_size hbk) : w.heap.size ≤ gb388)); have NB387_388 := Aside0.mk ((by rw [hg]; exact Nat.ne_of_lt (blk_ltB BK387.out) : gb387 ≠ gb388)); have NB388_387 := Aside0.mk ((by rw [hg]; exact Nat.ne_of_gt (blk_ltB BK387.out) : gb388 ≠ gb387)); replace BK387 := Aside0.mk (blk_belowB BK387.out hb); replace HB := Aside0.mk (below_step hbk hb); clear hb hbox hg; have hnb14 := NB387_388.out; have hnc14 := NB388_387.out; obtain ⟨hcz15_0, hcz15_1⟩ := blk_cs2 BK387.out; obtain ⟨hfz15_0, hfz15_1⟩ := blk_fs2 BK387.out; obtain ⟨hcz16_0, hcz16_1⟩ := blk_cs2 BK388.out; obtain ⟨hfz16_0, hfz16_1⟩ := blk_fs2 BK388.out))
   repeat (go_quiet (first | ((with_reducible refine gate_dst (N := 2) rfl ?_); refine box_event ?hg (N := 2) ?hd (cs := #[.int .i64 a0_0, .bool a0_1]) (t := 50) ?hr ?_; (case hd => rfl); (case hg => rfl); (case hr => first | (go_simp; done) | (go_simp; rfl)); intro gb387 hg w12 hbox hb; have BK387 := Aside0.mk hbox; have GE387 := Aside0.mk ((by rw [hg]; exact (below_size hbk) : w.heap.size ≤ gb387)); replace HB := Aside0.mk (below_step hbk hb); clear hb hbox hg) | ((with_reducible refine gate_dst (N := 3) rfl ?_); refine box_event ?hg (N := 3) ?hd (cs := #[.int .i64 a1_0, .bool a1_1]) (t := 50) ?hr ?_; (case hd => rfl); (case hg => rfl); (case hr => first | (go_simp; done) | (go_simp; rfl)); intro gb388 hg w13 hbox hb; have BK388 := Aside0.mk hbox; have GE388 := Aside0.mk ((by rw [hg]; exact (below_size hbk) : w.heap.size ≤ gb388)); have NB387_388 := Aside0.mk ((by rw [hg]; exact Nat.ne_of_lt (blk_ltB BK387.out) : gb387 ≠ gb388)); have NB388_387 := Aside0.mk ((by rw [hg]; exact Nat.ne_of_gt (blk_ltB BK387.out) : gb388 ≠ gb387)); replace BK387 := Aside0.mk (blk_belowB BK387.out hb); replace HB := Aside0.mk (below_step hbk hb); clear hb hbox hg; have hnb14 := NB387_388.out; have hnc14 := NB388_387.out; obtain ⟨hcz15_0, hcz15_1⟩ := blk_cs2 BK387.out; obtain ⟨hfz15_0, hfz15_1⟩ := blk_fs2 BK387.out; obtain ⟨hcz16_0, hcz16_1⟩ := blk_cs2 BK388.out; obtain ⟨hfz16_0, hfz16_1⟩ := blk_fs2 BK388.out)); try go_wp2_with (first | ((with_reducible refine gate_dst (N := 2) rfl ?_); refine box_event ?hg (N := 2) ?hd (cs := #[.int .i64 a0_0, .bool a0_1]) (t := 50) ?hr ?_; (case hd => rfl); (case hg => rfl); (case hr => first | (go_simp; done) | (go_simp; rfl)); intro gb387 hg w12 hbox hb; have n0_ := Aside0.mk (below_step hbk hb); have n1_ := Aside0.mk hbox; have n2_ := Aside0.mk ((by rw [hg]; exact (below_size hbk) : w.heap.size ≤ gb387)); have n3_ := Aside0.mk ((by rw [hg]; exact (below_size hbk) : w.heap.size ≤ gb387)); clear HB; have HB := n0_; have BK387 := n1_; have GW387 := n2_; have GE387 := n3_; clear n0_ n1_ n2_ n3_; clear hb hbox hg) | ((with_reducible refine gate_dst (N := 3) rfl ?_); refine box_event ?hg (N := 3) ?hd (cs := #[.int .i64 a1_0, .bool a1_1]) (t := 50) ?hr ?_; (case hd => rfl); (case hg => rfl); (case hr => first | (go_simp; done) | (go_simp; rfl)); intro gb388 hg w13 hbox hb; have n0_ := Aside0.mk (blk_belowB BK387.out hb); have n1_ := Aside0.mk (below_step hbk hb); have n2_ := Aside0.mk hbox; have n3_ := Aside0.mk ((by rw [hg]; exact (below_size hbk) : w.heap.size ≤ gb388)); have n4_ := Aside0.mk ((by rw [hg]; exact (below_size hbk) : w.heap.size ≤ gb388)); have n5_ := Aside0.mk ((by rw [hg]; exact Nat.ne_of_lt (blk_ltB BK387.out) : gb387 ≠ gb388)); have n6_ := Aside0.mk ((by rw [hg]; exact Nat.ne_of_gt (blk_ltB BK387.out) : gb388 ≠ gb387)); clear BK387; clear HB; have BK387 := n0_; have HB := n1_; have BK388 := n2_; have GW388 := n3_; have GE388 := n4_; have NB387_388 := n5_; have NB388_387 := n6_; clear n0_ n1_ n2_ n3_ n4_ n5_ n6_; clear hb hbox hg; have hnb14 := NB387_388.out; have hnc14 := NB388_387.out; obtain ⟨hcz15_0, hcz15_1⟩ := blk_cs2 BK387.out; obtain ⟨hfz15_0, hfz15_1⟩ := blk_fs2 BK387.out; obtain ⟨hcz16_0, hcz16_1⟩ := blk_cs2 BK388.out; obtain ⟨hfz16_0, hfz16_1⟩ := blk_fs2 BK388.out)))
   go_ret
   exact ⟨hrf, hbk⟩
  ·rw [if_neg c11] at H
   have c11b0 : decide (a0_0 < a1_0) = false := decide_eq_false c11
   clear c11
   obtain rfl := Option.some.inj H
   go_enter Tryz.func44, Tryz.ntmps44
   go_wp2_with (first | ((with_reducible refine gate_dst (N := 2) rfl ?_); refine box_event ?hg (N := 2) ?hd (cs := #[.int .i64 a0_0, .bool a0_1]) (t := 50) ?hr ?_; (case hd => rfl); (case hg => rfl); (case hr => first | (go_simp; done) | (go_simp; rfl)); intro gb387 hg w17 hbox hb; have BK387 := Aside0.mk hbox; have GE387 := Aside0.mk ((by rw [hg]; exact (below_size hbk) : w.heap.size ≤ gb387)); replace HB := Aside0.mk (below_step hbk hb); clear hb hbox hg) | ((with_reducible refine gate_dst (N := 3) rfl ?_); refine box_event ?hg (N := 3) ?hd (cs := #[.int .i64 a1_0, .bool a1_1]) (t := 50) ?hr ?_; (case hd => rfl); (case hg => rfl); (case hr => first | (go_simp; done) | (go_simp; rfl)); intro gb388 hg w18 hbox hb; have BK388 := Aside0.mk hbox; have GE388 := Aside0.mk ((by rw [hg]; exact (below_size hbk) : w.heap.size ≤ gb388)); have NB387_388 := Aside0.mk ((by rw [hg]; exact Nat.ne_of_lt (blk_ltB BK387.out) : gb387 ≠ gb388)); have NB388_387 := Aside0.mk ((by rw [hg]; exact Nat.ne_of_gt (blk_ltB BK387.out) : gb388 ≠ gb387)); replace BK387 := Aside0.mk (blk_belowB BK387.out hb); replace HB := Aside0.mk (below_step hbk hb); clear hb hbox hg; have hnb19 := NB387_388.out; have hnc19 := NB388_387.out; obtain ⟨hcz20_0, hcz20_1⟩ := blk_cs2 BK387.out; obtain ⟨hfz20_0, hfz20_1⟩ := blk_fs2 BK387.out; obtain ⟨hcz21_0, hcz21_1⟩ := blk_cs2 BK388.out; obtain ⟨hfz21_0, hfz21_1⟩ := blk_fs2 BK388.out))
   repeat (go_quiet (first | ((with_reducible refine gate_dst (N := 2) rfl ?_); refine box_event ?hg (N := 2) ?hd (cs := #[.int .i64 a0_0, .bool a0_1]) (t := 50) ?hr ?_; (case hd => rfl); (case hg => rfl); (case hr => first | (go_simp; done) | (go_simp; rfl)); intro gb387 hg w17 hbox hb; have BK387 := Aside0.mk hbox; have GE387 := Aside0.mk ((by rw [hg]; exact (below_size hbk) : w.heap.size ≤ gb387)); replace HB := Aside0.mk (below_step hbk hb); clear hb hbox hg) | ((with_reducible refine gate_dst (N := 3) rfl ?_); refine box_event ?hg (N := 3) ?hd (cs := #[.int .i64 a1_0, .bool a1_1]) (t := 50) ?hr ?_; (case hd => rfl); (case hg => rfl); (case hr => first | (go_simp; done) | (go_simp; rfl)); intro gb388 hg w18 hbox hb; have BK388 := Aside0.mk hbox; have GE388 := Aside0.mk ((by rw [hg]; exact (below_size hbk) : w.heap.size ≤ gb388)); have NB387_388 := Aside0.mk ((by rw [hg]; exact Nat.ne_of_lt (blk_ltB BK387.out) : gb387 ≠ gb388)); have NB388_387 := Aside0.mk ((by rw [hg]; exact Nat.ne_of_gt (blk_ltB BK387.out) : gb388 ≠ gb387)); replace BK387 := Aside0.mk (blk_belowB BK387.out hb); replace HB := Aside0.mk (below_step hbk hb); clear hb hbox hg; have hnb19 := NB387_388.out; have hnc19 := NB388_387.out; obtain ⟨hcz20_0, hcz20_1⟩ := blk_cs2 BK387.out; obtain ⟨hfz20_0, hfz20_1⟩ := blk_fs2 BK387.out; obtain ⟨hcz21_0, hcz21_1⟩ := blk_cs2 BK388.out; obtain ⟨hfz21_0, hfz21_1⟩ := blk_fs2 BK388.out)); try go_wp2_with (first | ((with_reducible refine gate_dst (N := 2) rfl ?_); refine box_event ?hg (N := 2) ?hd (cs := #[.int .i64 a0_0, .bool a0_1]) (t := 50) ?hr ?_; (case hd => rfl); (case hg => rfl); (case hr => first | (go_simp; done) | (go_simp; rfl)); intro gb387 hg w17 hbox hb; have n0_ := Aside0.mk (below_step hbk hb); have n1_ := Aside0.mk hbox; have n2_ := Aside0.mk ((by rw [hg]; exact (below_size hbk) : w.heap.size ≤ gb387)); have n3_ := Aside0.mk ((by rw [hg]; exact (below_size hbk) : w.heap.size ≤ gb387)); clear HB; have HB := n0_; have BK387 := n1_; have GW387 := n2_; have GE387 := n3_; clear n0_ n1_ n2_ n3_; clear hb hbox hg) | ((with_reducible refine gate_dst (N := 3) rfl ?_); refine box_event ?hg (N := 3) ?hd (cs := #[.int .i64 a1_0, .bool a1_1]) (t := 50) ?hr ?_; (case hd => rfl); (case hg => rfl); (case hr => first | (go_simp; done) | (go_simp; rfl)); intro gb388 hg w18 hbox hb; have n0_ := Aside0.mk (blk_belowB BK387.out hb); have n1_ := Aside0.mk (below_step hbk hb); have n2_ := Aside0.mk hbox; have n3_ := Aside0.mk ((by rw [hg]; exact (below_size hbk) : w.heap.size ≤ gb388)); have n4_ := Aside0.mk ((by rw [hg]; exact (below_size hbk) : w.heap.size ≤ gb388)); have n5_ := Aside0.mk ((by rw [hg]; exact Nat.ne_of_lt (blk_ltB BK387.out) : gb387 ≠ gb388)); have n6_ := Aside0.mk ((by rw [hg]; exact Nat.ne_of_gt (blk_ltB BK387.out) : gb388 ≠ gb387)); clear BK387; clear HB; have BK387 := n0_; have HB := n1_; have BK388 := n2_; have GW388 := n3_; have GE388 := n4_; have NB387_388 := n5_; have NB388_387 := n6_; clear n0_ n1_ n2_ n3_ n4_ n5_ n6_; clear hb hbox hg; have hnb19 := NB387_388.out; have hnc19 := NB388_387.out; obtain ⟨hcz20_0, hcz20_1⟩ := blk_cs2 BK387.out; obtain ⟨hfz20_0, hfz20_1⟩ := blk_fs2 BK387.out; obtain ⟨hcz21_0, hcz21_1⟩ := blk_cs2 BK388.out; obtain ⟨hfz21_0, hfz21_1⟩ := blk_fs2 BK388.out)))
   go_ret
   exact ⟨hrf, hbk⟩
end Go.Proofs.YtilnppdognejbaaGreatDoor.P
namespace Go.Proofs.YtilnppdognejbaaGreatDoor.P
open Go.RowKit Go.Proofs.YtilnppdognejbaaGreatDoorW.PrintWords Go.Proofs.YtilnppdognejbaaGreatDoorW.PrintLast Go.Proofs.YtilnppdognejbaaGreatDoorW.PrintMore
attribute [local go_sem] max2_int min2_int max_two min_two max_three min_three max_four min_four   -- for this text's walks alone
set_option linter.unusedVariables false
set_option linter.unusedSimpArgs false
mutual
def pairingref14_CompareDuties.l0 : Nat → List (S50) → List (S50) → Int → Option (Int)
 | 0, _, _, _ => none
 | k + 1, x0, x1, x5 => if x5 < (x0.length : Int) then (pairingref14_CompareDuties.j1 k x0 x1 x5 (decide (x5 < (x1.length : Int)))) else (pairingref14_CompareDuties.j1 k x0 x1 x5 false)
def pairingref14_CompareDuties.j1 : Nat → List (S50) → List (S50) → Int → Bool → Option (Int)
 | 0, _, _, _, _ => none
 | k + 1, x0, x1, x5, x16 => if x16 = true then (if 0 ≤ x5 then (if x5 < (x0.length : Int) then (if x5 < (x1.length : Int) then ((pairingref14_compareTasks.f ((rd_T50 x0 x5).f0) ((rd_T50 x0 x5).f1) ((rd_T50 x1 x5).f0) ((rd_T50 x1 x5).f1)).bind fun t393 => (if t393 = 0 then (pairingref14_CompareDuties.l0 k x0 x1 (wrap64 (x5 + 1))) else (some t393))) else (none)) else (none)) else (none)) else ((pairingref14_compare.f (x0.length : Int) (x1.length : Int)).bind fun t394 => (some t394))
end
def pairingref14_CompareDuties.f (k : Nat) (l0 : List (S50)) (l1 : List (S50)) : Option (Int) := pairingref14_CompareDuties.l0 k l0 l1 0
def pairingref14_CompareDuties.T4 : Bool × List (List Nat × List Nat) := (true, [([], []), ([], []), ([0, 1], [0, 1]), ([2], [2]), ([], []), ([], []), ([4, 5], [4, 5]), ([6], [6]), ([3, 7], [3, 7]), ([8, 8, 0, 1, 2, 3, 4, 5, 6, 7, 8], [8])])
def pairingref14_CompareDuties.B4 : List Nat := [0, 0, 3, 7, 0, 0, 48, 112, 255, 511]
theorem pairingref14_CompareDuties.tab4 : rtab .any (opsOf Tryz.f16 4) = pairingref14_CompareDuties.T4 := by kernel_rfl
theorem pairingref14_CompareDuties.bits4 : waitsOk pairingref14_CompareDuties.T4.2 pairingref14_CompareDuties.B4 = true := by kernel_rfl
set_option maxHeartbeats 8000000 in
set_option maxRecDepth 100000 in
theorem pairingref14_CompareDuties.calls (k : Nat) (A0 : Option Addr) (c0 : Nat) (l0 : List (S50)) (A1 : Option Addr) (c1 : Nat) (l1 : List (S50)) (r : Int) (w : World) (hr0 : Kd.C k50 w A0 l0.length l0) (hc0 : l0.length ≤ c0) (hr1 : Kd.C k50 w A1 l1.length l1) (hc1 : l1.length ≤ c1) (h : pairingref14_CompareDuties.f k l0 l1 = some r) :
  Calls Tryz.prog 16 #[.slice A0 l0.length c0, .slice A1 l1.length c1] w fun e w' => e = .returned (.int .i64 r) ∧ Below w.heap.size w w' := by
 have hu50 := Tryz.underlying50
 have HR0 := Aside0.mk hr0
 have HC0 := Aside0.mk hc0
 clear hr0 hc0
 have HR1 := Aside0.mk hr1
 have HC1 := Aside0.mk hc1
 clear hr1 hc1
 have HB := Aside0.mk (Below.refl w.heap.size w)
 have H : (pairingref14_CompareDuties.l0 k l0 l1 0) = some r := h
 clear h
 have H' := Aside0.mk H
 clear H
 go_enter Tryz.func16, Tryz.ntmps16
 go_wp2
 go_loopg [5] k (fun kq v5 w' => ∃ (x5_1 : Int), v5 = .int .i64 x5_1 ∧ Aside0 (pairingref14_CompareDuties.l0 kq l0 l1 x5_1 = some r) ∧ Aside0 (kq ≤ k) ∧ Aside0 (Below w.heap.size w w'))
 case atStart => exact ⟨(0), (by first | rfl | (simp; done) | (simp [*]; done)), H', ⟨Nat.le_refl _⟩, ⟨hbk⟩⟩
 case round =>
  clear H'
  try clear c1
  try clear p2
  obtain ⟨x5_1, rfl, HA, HK1, HB⟩ := hrel
  cases gk with
  | zero => exact absurd HA.out (by simp [pairingref14_CompareDuties.l0])
  | succ k1 =>
   have H := HA.out
   clear HA
   simp only [pairingref14_CompareDuties.l0] at H
   have HC3 := Aside0.mk H
   clear H
   go_upto_region 2 with (fail)
   go_cut [16] (fun v16 wc => ∃ (kq : Nat) (x16_2 : Bool), v16 = .bool x16_2 ∧ Aside0 (pairingref14_CompareDuties.j1 kq l0 l1 x5_1 x16_2 = some r) ∧ Aside0 (kq ≤ k1) ∧ Aside0 (Below w.heap.size w wc))
   case first =>
    have H := HC3.out
    clear HC3
    by_cases c4 : x5_1 < (l0.length : Int)
    ·rw [if_pos c4] at H
     have c4b0 : decide (x5_1 < (l0.length : Int)) = true := decide_eq_true c4
     clear c4
     (first | rw [c4b0] | (simp only [i64_w, i32_w]; rw [c4b0]) | skip)
     have H' := Aside0.mk H
     clear H
     go_wp2
     go_meet
     case rel => exact ⟨_, (decide (x5_1 < (l1.length : Int))), (by first | rfl | (simp; done) | (simp [*]; done)), H', ⟨by have := HK1.out; first | omega | exact Nat.le_refl _⟩, ⟨hbk⟩⟩
    ·rw [if_neg c4] at H
     have c4b0 : decide (x5_1 < (l0.length : Int)) = false := decide_eq_false c4
     clear c4
     (first | rw [c4b0] | (simp only [i64_w, i32_w]; rw [c4b0]) | skip)
     have H' := Aside0.mk H
     clear H
     go_wp2
     go_meet
     case rel => exact ⟨_, (false), (by first | rfl | (simp; done) | (simp [*]; done)), H', ⟨by have := HK1.out; first | omega | exact Nat.le_refl _⟩, ⟨hbk⟩⟩
   case rest =>
    clear HC3
    try clear c1
    try clear p2
    try clear c4
    try clear c4b0
    try clear p2
    obtain ⟨kq, x16_2, rfl, HA, HJ2, HB⟩ := hcut
    cases kq with
    | zero => exact absurd HA.out (by simp [pairingref14_CompareDuties.j1])
    | succ kj2 =>
     have H := HA.out
     clear HA
     simp only [pairingref14_CompareDuties.j1] at H
     by_cases c5 : x16_2 = true
     ·subst c5
      have H1 : (if 0 ≤ x5_1 then (if x5_1 < (l0.length : Int) then (if x5_1 < (l1.length : Int) then ((pairingref14_compareTasks.f ((rd_T50 l0 x5_1).f0) ((rd_T50 l0 x5_1).f1) ((rd_T50 l1 x5_1).f0) ((rd_T50 l1 x5_1).f1)).bind fun t393 => (if t393 = 0 then (pairingref14_CompareDuties.l0 kj2 l0 l1 (wrap64 (x5_1 + 1))) else (some t393))) else (none)) else (none)) else (none)) = some r := by rw [if_pos rfl] at H; exact H
      clear H
      have H := H1
      clear H1
      by_cases c6 : 0 ≤ x5_1
      ·rw [if_pos c6] at H
       have c6b0 : decide (0 ≤ x5_1) = true := decide_eq_true c6
       clear c6
       by_cases c7 : x5_1 < (l0.length : Int)
       ·rw [if_pos c7] at H
        have c7b0 : decide (x5_1 < (l0.length : Int)) = true := decide_eq_true c7
        clear c7
        by_cases c8 : x5_1 < (l1.length : Int)
        ·rw [if_pos c8] at H
         have c8b0 : decide (x5_1 < (l1.length : Int)) = true := decide_eq_true c8
         clear c8
         replace H := Option.bind_eq_some_iff.mp H
         obtain ⟨t393, A90, H⟩ := H
         replace H : (if t393 = 0 then (pairingref14_CompareDuties.l0 kj2 l0 l1 (wrap64 (x5_1 + 1))) else (some t393)) = some r := H
         have A9 := Aside0.mk A90
         clear A90
         by_cases c10 : t393 = 0
         ·rw [if_pos c10] at H
          have c10b0 : (t393 == 0) = true := beq_iff_eq.mpr c10
          have c10b1 : (t393 != 0) = false := bne_eq_false_iff_eq.mpr c10
          clear c10
          have H' := Aside0.mk H
          clear H
          try go_wp2
          replace HB := Aside0.mk (below_drew1 HB.out)
          have p391 : 0 ≤ (x5_1 : Int) := of_decide_eq_true (by first | (with_reducible assumption) | assumption)
          have q391 : x5_1 < (l0.length : Int) := of_decide_eq_true (by first | (with_reducible assumption) | assumption)
          obtain ⟨ad391, e391, hx391_0, hx391_1⟩ := at_T50 HR0.out x5_1 p391 q391
          have hw391_1 := hx391_1
          have hw391_0 := hx391_0
          cases e391
          replace hx391_0 := (HB.out.cell (World.block_lt_of_cell? w _ hx391_0)).trans hx391_0
          replace hx391_1 := (HB.out.cell (World.block_lt_of_cell? w _ hx391_1)).trans hx391_1
          replace p391 := eq_true p391
          replace q391 := eq_true q391
          have p392 : 0 ≤ (x5_1 : Int) := of_decide_eq_true (by first | (with_reducible assumption) | assumption)
          have q392 : x5_1 < (l1.length : Int) := of_decide_eq_true (by first | (with_reducible assumption) | assumption)
          obtain ⟨ad392, e392, hx392_0, hx392_1⟩ := at_T50 HR1.out x5_1 p392 q392
          have hw392_1 := hx392_1
          have hw392_0 := hx392_0
          cases e392
          replace hx392_0 := (HB.out.cell (World.block_lt_of_cell? w _ hx392_0)).trans hx392_0
          replace hx392_1 := (HB.out.cell (World.block_lt_of_cell? w _ hx392_1)).trans hx392_1
          replace p392 := eq_true p392
          replace q392 := eq_true q392
          refine start_ (n := 10) (S := fun w' => w'.cell? (ad391.add ((x5_1).toNat * 2)) = some (.int .i64 ((rd_T50 l0 x5_1).f0)) ∧ w'.cell? ⟨(ad391.add ((x5_1).toNat * 2)).block, (ad391.add ((x5_1).toNat * 2)).off + 1, none⟩ = some (.bool ((rd_T50 l0 x5_1).f1)) ∧ w'.cell? (ad392.add ((x5_1).toNat * 2)) = some (.int .i64 ((rd_T50 l1 x5_1).f0)) ∧ w'.cell? ⟨(ad392.add ((x5_1).toNat * 2)).block, (ad392.add ((x5_1).toNat * 2)).off + 1, none⟩ = some (.bool ((rd_T50 l1 x5_1).f1))) (ds := []) #[false, false, false, false, false, false, false, false, false, false] (by kernel_rfl) rfl rfl ⟨((HB.out.cell (World.block_lt_of_cell? w _ hw391_0)).trans hw391_0), ((HB.out.cell (World.block_lt_of_cell? w _ hw391_1)).trans hw391_1), ((HB.out.cell (World.block_lt_of_cell? w _ hw392_0)).trans hw392_0), ((HB.out.cell (World.block_lt_of_cell? w _ hw392_1)).trans hw392_1)⟩ (fun hHeld => ?_); refine with_tabW pairingref14_CompareDuties.tab4 pairingref14_CompareDuties.bits4 (fun HT_ HW_ => ?_)
          generalize wc.drew = w11 at HB hx391_0 hx391_1 hx392_0 hx392_1 hHeld ⊢
          refine pure_ (i := 0) (N := some 19) (v := ?_) (a' := ?_) #[true, false, false, false, false, false, false, false, false, false] rfl rfl (any_of HT_.out (by kernel_rfl)) (fun _ _ _ h => h) (Or.inl ⟨by rfl, ?_⟩) ?_ ?_
          rotate_left
          ·intro w'
           go_simp
           with_reducible rfl
          rotate_left
          ·simp only [Act.put, List.setIfInBounds_toArray, List.set_cons_zero, List.set_cons_succ, i64_w, i32_w]
           rfl
          refine pure_ (i := 1) (N := some 20) (v := ?_) (a' := ?_) #[true, true, false, false, false, false, false, false, false, false] rfl rfl (any_of HT_.out (by kernel_rfl)) (fun _ _ _ h => h) (Or.inl ⟨by rfl, ?_⟩) ?_ ?_
          rotate_left
          ·intro w'
           go_simp
           with_reducible rfl
          rotate_left
          ·simp only [Act.put, List.setIfInBounds_toArray, List.set_cons_zero, List.set_cons_succ, i64_w, i32_w]
           rfl
          refine pure_ (i := 2) (N := some 21) (v := ?_) (a' := ?_) #[true, true, true, false, false, false, false, false, false, false] rfl rfl (any_of HT_.out (by kernel_rfl)) (fun _ _ _ h => h) (Or.inl ⟨by rfl, ?_⟩) ?_ ?_
          rotate_left
          ·intro w'
           go_simp
           with_reducible rfl
          rotate_left
          ·simp only [Act.put, List.setIfInBounds_toArray, List.set_cons_zero, List.set_cons_succ, i64_w, i32_w]
           rfl
          refine pure_ (i := 4) (N := some 23) (v := ?_) (a' := ?_) #[true, true, true, false, true, false, false, false, false, false] rfl rfl (any_of HT_.out (by kernel_rfl)) (fun _ _ _ h => h) (Or.inl ⟨by rfl, ?_⟩) ?_ ?_
          rotate_left
          ·intro w'
           go_simp
           with_reducible rfl
          rotate_left
          ·simp only [Act.put, List.setIfInBounds_toArray, List.set_cons_zero, List.set_cons_succ, i64_w, i32_w]
           rfl
          refine pure_ (i := 5) (N := some 24) (v := ?_) (a' := ?_) #[true, true, true, false, true, true, false, false, false, false] rfl rfl (any_of HT_.out (by kernel_rfl)) (fun _ _ _ h => h) (Or.inl ⟨by rfl, ?_⟩) ?_ ?_
          rotate_left
          ·intro w'
           go_simp
           with_reducible rfl
          rotate_left
          ·simp only [Act.put, List.setIfInBounds_toArray, List.set_cons_zero, List.set_cons_succ, i64_w, i32_w]
           rfl
          refine pure_ (i := 6) (N := some 25) (v := ?_) (a' := ?_) #[true, true, true, false, true, true, true, false, false, false] rfl rfl (any_of HT_.out (by kernel_rfl)) (fun _ _ _ h => h) (Or.inl ⟨by rfl, ?_⟩) ?_ ?_
          rotate_left
          ·intro w'
           go_simp
           with_reducible rfl
          rotate_left
          ·simp only [Act.put, List.setIfInBounds_toArray, List.set_cons_zero, List.set_cons_succ, i64_w, i32_w]
           rfl
          refine take_ (i := 3) (N := some 22) (v := ?_) (a' := ?_) #[true, true, true, true, true, true, true, false, false, false] rfl rfl (take_ofW HT_.out HW_.out (by kernel_rfl)) (fun _ _ _ h => h) (Or.inl ⟨by rfl, ?_⟩) hHeld ?_ ?_
          rotate_left
          ·rintro w' ⟨s0, s1, s2, s3⟩
           go_simp
           with_reducible rfl
          rotate_left
          ·simp only [Act.put, List.setIfInBounds_toArray, List.set_cons_zero, List.set_cons_succ, i64_w, i32_w]
           rfl
          refine take_ (i := 7) (N := some 26) (v := ?_) (a' := ?_) #[true, true, true, true, true, true, true, true, false, false] rfl rfl (take_ofW HT_.out HW_.out (by kernel_rfl)) (fun _ _ _ h => h) (Or.inl ⟨by rfl, ?_⟩) hHeld ?_ ?_
          rotate_left
          ·rintro w' ⟨s0, s1, s2, s3⟩
           go_simp
           with_reducible rfl
          rotate_left
          ·simp only [Act.put, List.setIfInBounds_toArray, List.set_cons_zero, List.set_cons_succ, i64_w, i32_w]
           rfl
          refine one_ (i := 8) (N := some 27) #[true, true, true, true, true, true, true, true, true, false] rfl rfl (one_of HT_.out (by kernel_rfl)) (by decide) (fun K hK => ?_)
          refine goes_ Tryz.func44 (by kernel_rfl) rfl #[.agg #[.int .i64 ((rd_T50 l0 x5_1).f0), .bool ((rd_T50 l0 x5_1).f1)], .agg #[.int .i64 ((rd_T50 l1 x5_1).f0), .bool ((rd_T50 l1 x5_1).f1)]] (by rfl) rfl rfl hgl ?_
          with_reducible refine (pairingref14_compareTasks.calls ((rd_T50 l0 x5_1).f0) ((rd_T50 l0 x5_1).f1) ((rd_T50 l1 x5_1).f0) ((rd_T50 l1 x5_1).f1) t393 _ A9.out).mono ?_
          rintro e w12 ⟨rfl, hb⟩
          refine ⟨_, rfl, ?_⟩
          replace HB := Aside0.mk (below_step hbk hb)
          (try clear hb)
          (try clear hb2)
          (try clear hk)
          (try clear hi)
          refine hK.out _ _ ⟨((HB.out.cell (World.block_lt_of_cell? w _ hw391_0)).trans hw391_0), ((HB.out.cell (World.block_lt_of_cell? w _ hw391_1)).trans hw391_1), ((HB.out.cell (World.block_lt_of_cell? w _ hw392_0)).trans hw392_0), ((HB.out.cell (World.block_lt_of_cell? w _ hw392_1)).trans hw392_1)⟩ (fun hHeld => ?_)
          clear hK K
          refine norm_ (a' := ?_) ?_ ?_
          rotate_left
          ·show Act.put _ (some 27) _ = _
           simp only [Act.put, List.setIfInBounds_toArray, List.set_cons_zero, List.set_cons_succ, i64_w, i32_w]
           rfl
          refine pure_ (i := 9) (N := some 6) (v := ?_) (a' := ?_) #[true, true, true, true, true, true, true, true, true, true] rfl rfl (any_of HT_.out (by kernel_rfl)) (fun _ _ _ h => h) (Or.inl ⟨by rfl, ?_⟩) ?_ ?_
          rotate_left
          ·intro w'
           go_simp
           with_reducible rfl
          rotate_left
          ·simp only [Act.put, List.setIfInBounds_toArray, List.set_cons_zero, List.set_cons_succ, i64_w, i32_w]
           rfl
          refine done_ (done_of HT_.out (by kernel_rfl)) ?_
          try go_wp2
          go_roundg kj2
          case measure => have := HK1.out; have := HJ2.out; omega
          case rel => exact ⟨(wrap64 (x5_1 + 1)), (by first | rfl | (simp; done) | (simp [*]; done)), H', ⟨by have := HK1.out; have := HJ2.out; omega⟩, ⟨hbk⟩⟩
         ·rw [if_neg c10] at H
          have c10b0 : (t393 == 0) = false := beq_eq_false_iff_ne.mpr c10
          have c10b1 : (t393 != 0) = true := bne_iff_ne.mpr c10
          obtain rfl := Option.some.inj H
          try go_wp2
          replace HB := Aside0.mk (below_drew1 HB.out)
          have p391 : 0 ≤ (x5_1 : Int) := of_decide_eq_true (by first | (with_reducible assumption) | assumption)
          have q391 : x5_1 < (l0.length : Int) := of_decide_eq_true (by first | (with_reducible assumption) | assumption)
          obtain ⟨ad391, e391, hx391_0, hx391_1⟩ := at_T50 HR0.out x5_1 p391 q391
          have hw391_1 := hx391_1
          have hw391_0 := hx391_0
          cases e391
          replace hx391_0 := (HB.out.cell (World.block_lt_of_cell? w _ hx391_0)).trans hx391_0
          replace hx391_1 := (HB.out.cell (World.block_lt_of_cell? w _ hx391_1)).trans hx391_1
          replace p391 := eq_true p391
          replace q391 := eq_true q391
          have p392 : 0 ≤ (x5_1 : Int) := of_decide_eq_true (by first | (with_reducible assumption) | assumption)
          have q392 : x5_1 < (l1.length : Int) := of_decide_eq_true (by first | (with_reducible assumption) | assumption)
          obtain ⟨ad392, e392, hx392_0, hx392_1⟩ := at_T50 HR1.out x5_1 p392 q392
          have hw392_1 := hx392_1
          have hw392_0 := hx392_0
          cases e392
          replace hx392_0 := (HB.out.cell (World.block_lt_of_cell? w _ hx392_0)).trans hx392_0
          replace hx392_1 := (HB.out.cell (World.block_lt_of_cell? w _ hx392_1)).trans hx392_1
          replace p392 := eq_true p392
          replace q392 := eq_true q392
          refine start_ (n := 10) (S := fun w' => w'.cell? (ad391.add ((x5_1).toNat * 2)) = some (.int .i64 ((rd_T50 l0 x5_1).f0)) ∧ w'.cell? ⟨(ad391.add ((x5_1).toNat * 2)).block, (ad391.add ((x5_1).toNat * 2)).off + 1, none⟩ = some (.bool ((rd_T50 l0 x5_1).f1)) ∧ w'.cell? (ad392.add ((x5_1).toNat * 2)) = some (.int .i64 ((rd_T50 l1 x5_1).f0)) ∧ w'.cell? ⟨(ad392.add ((x5_1).toNat * 2)).block, (ad392.add ((x5_1).toNat * 2)).off + 1, none⟩ = some (.bool ((rd_T50 l1 x5_1).f1))) (ds := []) #[false, false, false, false, false, false, false, false, false, false] (by kernel_rfl) rfl rfl ⟨((HB.out.cell (World.block_lt_of_cell? w _ hw391_0)).trans hw391_0), ((HB.out.cell (World.block_lt_of_cell? w _ hw391_1)).trans hw391_1), ((HB.out.cell (World.block_lt_of_cell? w _ hw392_0)).trans hw392_0), ((HB.out.cell (World.block_lt_of_cell? w _ hw392_1)).trans hw392_1)⟩ (fun hHeld => ?_); refine with_tabW pairingref14_CompareDuties.tab4 pairingref14_CompareDuties.bits4 (fun HT_ HW_ => ?_)
          generalize wc.drew = w13 at HB hx391_0 hx391_1 hx392_0 hx392_1 hHeld ⊢
          refine pure_ (i := 0) (N := some 19) (v := ?_) (a' := ?_) #[true, false, false, false, false, false, false, false, false, false] rfl rfl (any_of HT_.out (by kernel_rfl)) (fun _ _ _ h => h) (Or.inl ⟨by rfl, ?_⟩) ?_ ?_
          rotate_left
          ·intro w'
           go_simp
           with_reducible rfl
          rotate_left
          ·simp only [Act.put, List.setIfInBounds_toArray, List.set_cons_zero, List.set_cons_succ, i64_w, i32_w]
           rfl
          refine pure_ (i := 1) (N := some 20) (v := ?_) (a' := ?_) #[true, true, false, false, false, false, false, false, false, false] rfl rfl (any_of HT_.out (by kernel_rfl)) (fun _ _ _ h => h) (Or.inl ⟨by rfl, ?_⟩) ?_ ?_
          rotate_left
          ·intro w'
           go_simp
           with_reducible rfl
          rotate_left
          ·simp only [Act.put, List.setIfInBounds_toArray, List.set_cons_zero, List.set_cons_succ, i64_w, i32_w]
           rfl
          refine pure_ (i := 2) (N := some 21) (v := ?_) (a' := ?_) #[true, true, true, false, false, false, false, false, false, false] rfl rfl (any_of HT_.out (by kernel_rfl)) (fun _ _ _ h => h) (Or.inl ⟨by rfl, ?_⟩) ?_ ?_
          rotate_left
          ·intro w'
           go_simp
           with_reducible rfl
          rotate_left
          ·simp only [Act.put, List.setIfInBounds_toArray, List.set_cons_zero, List.set_cons_succ, i64_w, i32_w]
           rfl
          refine pure_ (i := 4) (N := some 23) (v := ?_) (a' := ?_) #[true, true, true, false, true, false, false, false, false, false] rfl rfl (any_of HT_.out (by kernel_rfl)) (fun _ _ _ h => h) (Or.inl ⟨by rfl, ?_⟩) ?_ ?_
          rotate_left
          ·intro w'
           go_simp
           with_reducible rfl
          rotate_left
          ·simp only [Act.put, List.setIfInBounds_toArray, List.set_cons_zero, List.set_cons_succ, i64_w, i32_w]
           rfl
          refine pure_ (i := 5) (N := some 24) (v := ?_) (a' := ?_) #[true, true, true, false, true, true, false, false, false, false] rfl rfl (any_of HT_.out (by kernel_rfl)) (fun _ _ _ h => h) (Or.inl ⟨by rfl, ?_⟩) ?_ ?_
          rotate_left
          ·intro w'
           go_simp
           with_reducible rfl
          rotate_left
          ·simp only [Act.put, List.setIfInBounds_toArray, List.set_cons_zero, List.set_cons_succ, i64_w, i32_w]
           rfl
          refine pure_ (i := 6) (N := some 25) (v := ?_) (a' := ?_) #[true, true, true, false, true, true, true, false, false, false] rfl rfl (any_of HT_.out (by kernel_rfl)) (fun _ _ _ h => h) (Or.inl ⟨by rfl, ?_⟩) ?_ ?_
          rotate_left
          ·intro w'
           go_simp
           with_reducible rfl
          rotate_left
          ·simp only [Act.put, List.setIfInBounds_toArray, List.set_cons_zero, List.set_cons_succ, i64_w, i32_w]
           rfl
          refine take_ (i := 3) (N := some 22) (v := ?_) (a' := ?_) #[true, true, true, true, true, true, true, false, false, false] rfl rfl (take_ofW HT_.out HW_.out (by kernel_rfl)) (fun _ _ _ h => h) (Or.inl ⟨by rfl, ?_⟩) hHeld ?_ ?_
          rotate_left
          ·rintro w' ⟨s0, s1, s2, s3⟩
           go_simp
           with_reducible rfl
          rotate_left
          ·simp only [Act.put, List.setIfInBounds_toArray, List.set_cons_zero, List.set_cons_succ, i64_w, i32_w]
           rfl
          refine take_ (i := 7) (N := some 26) (v := ?_) (a' := ?_) #[true, true, true, true, true, true, true, true, false, false] rfl rfl (take_ofW HT_.out HW_.out (by kernel_rfl)) (fun _ _ _ h => h) (Or.inl ⟨by rfl, ?_⟩) hHeld ?_ ?_
          rotate_left
          ·rintro w' ⟨s0, s1, s2, s3⟩
           go_simp
           with_reducible rfl
          rotate_left
          ·simp only [Act.put, List.setIfInBounds_toArray, List.set_cons_zero, List.set_cons_succ, i64_w, i32_w]
           rfl
          refine one_ (i := 8) (N := some 27) #[true, true, true, true, true, true, true, true, true, false] rfl rfl (one_of HT_.out (by kernel_rfl)) (by decide) (fun K hK => ?_)
          refine goes_ Tryz.func44 (by kernel_rfl) rfl #[.agg #[.int .i64 ((rd_T50 l0 x5_1).f0), .bool ((rd_T50 l0 x5_1).f1)], .agg #[.int .i64 ((rd_T50 l1 x5_1).f0), .bool ((rd_T50 l1 x5_1).f1)]] (by rfl) rfl rfl hgl ?_
          with_reducible refine (pairingref14_compareTasks.calls ((rd_T50 l0 x5_1).f0) ((rd_T50 l0 x5_1).f1) ((rd_T50 l1 x5_1).f0) ((rd_T50 l1 x5_1).f1) t393 _ A9.out).mono ?_
          rintro e w14 ⟨rfl, hb⟩
          refine ⟨_, rfl, ?_⟩
          replace HB := Aside0.mk (below_step hbk hb)
          (try clear hb)
          (try clear hb2)
          (try clear hk)
          (try clear hi)
          refine hK.out _ _ ⟨((HB.out.cell (World.block_lt_of_cell? w _ hw391_0)).trans hw391_0), ((HB.out.cell (World.block_lt_of_cell? w _ hw391_1)).trans hw391_1), ((HB.out.cell (World.block_lt_of_cell? w _ hw392_0)).trans hw392_0), ((HB.out.cell (World.block_lt_of_cell? w _ hw392_1)).trans hw392_1)⟩ (fun hHeld => ?_)
          clear hK K
          refine norm_ (a' := ?_) ?_ ?_
          rotate_left
          ·show Act.put _ (some 27) _ = _
           simp only [Act.put, List.setIfInBounds_toArray, List.set_cons_zero, List.set_cons_succ, i64_w, i32_w]
           rfl
          refine pure_ (i := 9) (N := some 6) (v := ?_) (a' := ?_) #[true, true, true, true, true, true, true, true, true, true] rfl rfl (any_of HT_.out (by kernel_rfl)) (fun _ _ _ h => h) (Or.inl ⟨by rfl, ?_⟩) ?_ ?_
          rotate_left
          ·intro w'
           go_simp
           with_reducible rfl
          rotate_left
          ·simp only [Act.put, List.setIfInBounds_toArray, List.set_cons_zero, List.set_cons_succ, i64_w, i32_w]
           rfl
          refine done_ (done_of HT_.out (by kernel_rfl)) ?_
          try go_wp2
          go_ret
          exact ⟨hrf, hbk⟩
        ·rw [if_neg c8] at H
         exact absurd H (by simp)
       ·rw [if_neg c7] at H
        exact absurd H (by simp)
      ·rw [if_neg c6] at H
       exact absurd H (by simp)
     ·replace c5 := Bool.eq_false_iff.mpr c5
      subst c5
      have H1 : ((pairingref14_compare.f (l0.length : Int) (l1.length : Int)).bind fun t394 => (some t394)) = some r := by rw [if_neg (show ¬ (false = true) by decide)] at H; exact H
      clear H
      have H := H1
      clear H1
      replace H := Option.bind_eq_some_iff.mp H
      obtain ⟨t394, A150, H⟩ := H
      replace H : (some t394) = some r := H
      have A15 := Aside0.mk A150
      clear A150
      obtain rfl := Option.some.inj H
      go_wp2_with (first | ((with_reducible refine gate_callee (f := 41) rfl ?_); refine goesL_ (some 35) rfl rfl Tryz.func41 (by kernel_rfl) rfl #[.int .i64 (l0.length : Int), .int .i64 (l1.length : Int)] rfl hgl ?_; (with_reducible refine (pairingref14_compare.calls (l0.length : Int) (l1.length : Int) t394 _ A15.out).mono ?_); rintro e w' ⟨rfl, ⟨nd, rfl⟩⟩; refine ⟨_, rfl, ?_⟩))
      go_ret
      exact ⟨hrf, hbk⟩
end Go.Proofs.YtilnppdognejbaaGreatDoor.P
namespace Go.Proofs.YtilnppdognejbaaGreatDoor.P
open Go.RowKit Go.Proofs.YtilnppdognejbaaGreatDoorW.PrintWords Go.Proofs.YtilnppdognejbaaGreatDoorW.PrintLast Go.Proofs.YtilnppdognejbaaGreatDoorW.PrintMore
attribute [local go_sem] max2_int min2_int max_two min_two max_three min_three max_four min_four   -- for this text's walks alone
attribute [local go_sem] binOp_string_gtr
set_option linter.unusedVariables false
set_option linter.unusedSimpArgs false
mutual
def pairingref14_ComparePairings.l0 : Nat → Int → ByteArray → List (List (S50)) → ByteArray → List (List (S50)) → Option (Int)
 | 0, _, _, _, _, _ => none
 | k + 1, x5, x396000, x396001, x397000, x397001 => if x5 < (x396001.length : Int) then (pairingref14_ComparePairings.j1 k x5 (decide (x5 < (x397001.length : Int))) x396000 x396001 x397000 x397001) else (pairingref14_ComparePairings.j1 k x5 false x396000 x396001 x397000 x397001)
def pairingref14_ComparePairings.j1 : Nat → Int → Bool → ByteArray → List (List (S50)) → ByteArray → List (List (S50)) → Option (Int)
 | 0, _, _, _, _, _, _ => none
 | k + 1, x5, x28, x396000, x396001, x397000, x397001 => if x28 = true then (if 0 ≤ x5 then (if x5 < (x396001.length : Int) then (if x5 < (x397001.length : Int) then ((pairingref14_CompareDuties.f k (rd_L31 x396001 x5) (rd_L31 x397001 x5)).bind fun t399 => (if t399 = 0 then (pairingref14_ComparePairings.l0 k (wrap64 (x5 + 1)) x396000 x396001 x397000 x397001) else (some t399))) else (none)) else (none)) else (none)) else ((pairingref14_compare.f (x396001.length : Int) (x397001.length : Int)).bind fun t400 => (some t400))
end
def pairingref14_ComparePairings.f (k : Nat) (a0_0 : ByteArray) (l0_1 : List (List (S50))) (a1_0 : ByteArray) (l1_1 : List (List (S50))) : Option (Int) := if a0_0.toList = a1_0.toList then (pairingref14_ComparePairings.l0 k 0 a0_0 l0_1 a1_0 l1_1) else (if (Op.bytesLess a0_0.toList a1_0.toList) = true then (some (-1)) else (some 1))
def pairingref14_ComparePairings.T8 : Bool × List (List Nat × List Nat) := (true, [([], []), ([0], [0]), ([], []), ([1, 2], [1, 2]), ([3], [3]), ([], []), ([5], [5]), ([], []), ([6, 7], [6, 7]), ([8], [8]), ([4, 9], [4, 9]), ([10, 10, 0, 1, 2, 3, 4, 5, 6, 7, 8, 9, 10], [10])])
def pairingref14_ComparePairings.B8 : List Nat := [0, 1, 0, 7, 15, 0, 32, 0, 224, 480, 1023, 2047]
theorem pairingref14_ComparePairings.tab8 : rtab .any (opsOf Tryz.f14 8) = pairingref14_ComparePairings.T8 := by kernel_rfl
theorem pairingref14_ComparePairings.bits8 : waitsOk pairingref14_ComparePairings.T8.2 pairingref14_ComparePairings.B8 = true := by kernel_rfl
set_option maxHeartbeats 8000000 in
set_option maxRecDepth 100000 in
theorem pairingref14_ComparePairings.calls (k : Nat) (a0_0 : ByteArray) (A0_1 : Option Addr) (c0_1 : Nat) (l0_1 : List (List (S50))) (a1_0 : ByteArray) (A1_1 : Option Addr) (c1_1 : Nat) (l1_1 : List (List (S50))) (r : Int) (w : World) (hr0_1 : Kd.C (Kd.slice 50 k50) w A0_1 l0_1.length l0_1) (hc0_1 : l0_1.length ≤ c0_1) (hr1_1 : Kd.C (Kd.slice 50 k50) w A1_1 l1_1.length l1_1) (hc1_1 : l1_1.length ≤ c1_1) (h : pairingref14_ComparePairings.f k a0_0 l0_1 a1_0 l1_1 = some r) :
  Calls Tryz.prog 14 #[.agg #[.string a0_0, .slice A0_1 l0_1.length c0_1], .agg #[.string a1_0, .slice A1_1 l1_1.length c1_1]] w fun e w' => e = .returned (.int .i64 r) ∧ Below w.heap.size w w' := by
 have hu43 := Tryz.underlying43
 have HR0_1 := Aside0.mk hr0_1
 have HC0_1 := Aside0.mk hc0_1
 clear hr0_1 hc0_1
 have HR1_1 := Aside0.mk hr1_1
 have HC1_1 := Aside0.mk hc1_1
 clear hr1_1 hc1_1
 have HB := Aside0.mk (Below.refl w.heap.size w)
 have H : (if a0_0.toList = a1_0.toList then (pairingref14_ComparePairings.l0 k 0 a0_0 l0_1 a1_0 l1_1) else (if (Op.bytesLess a0_0.toList a1_0.toList) = true then (some (-1)) else (some 1))) = some r := h
 clear h
 by_cases c3 : a0_0.toList = a1_0.toList
 ·rw [if_pos c3] at H
  have c3b0 : (a0_0.toList == a1_0.toList) = true := beq_iff_eq.mpr c3
  have c3b1 : (a0_0.toList != a1_0.toList) = false := bne_eq_false_iff_eq.mpr c3
  clear c3
  have H' := Aside0.mk H
  clear H
  go_enter Tryz.func14, Tryz.ntmps14
  go_wp2_with (first | ((with_reducible refine gate_dst (N := 2) rfl ?_); (try (refine gate_guard (by rfl) ?_; dsimp only)); refine box_event ?hg (N := 2) ?hd (cs := #[.string a0_0, .slice A0_1 l0_1.length c0_1]) (t := 43) ?hr ?_; (case hd => rfl); (case hg => rfl); (case hr => first | (go_simp; done) | (go_simp; rfl)); intro gb395 hg w4 hbox hb; have BK395 := Aside0.mk hbox; have GE395 := Aside0.mk ((by rw [hg]; exact (below_size hbk) : w.heap.size ≤ gb395)); replace HB := Aside0.mk (below_step hbk hb); clear hb hbox hg) | ((with_reducible refine gate_dst (N := 3) rfl ?_); (try (refine gate_guard (by rfl) ?_; dsimp only)); refine box_event ?hg (N := 3) ?hd (cs := #[.string a1_0, .slice A1_1 l1_1.length c1_1]) (t := 43) ?hr ?_; (case hd => rfl); (case hg => rfl); (case hr => first | (go_simp; done) | (go_simp; rfl)); intro gb396 hg w5 hbox hb; have BK396 := Aside0.mk hbox; have GE396 := Aside0.mk ((by rw [hg]; exact (below_size hbk) : w.heap.size ≤ gb396)); have NB395_396 := Aside0.mk ((by rw [hg]; exact Nat.ne_of_lt (blk_ltB BK395.out) : gb395 ≠ gb396)); have NB396_395 := Aside0.mk ((by rw [hg]; exact Nat.ne_of_gt (blk_ltB BK395.out) : gb396 ≠ gb395)); replace BK395 := Aside0.mk (blk_belowB BK395.out hb); replace HB := Aside0.mk (below_step hbk hb); clear hb hbox hg; have hnb6 := NB395_396.out; have hnc6 := NB396_395.out; obtain ⟨hcz7_0, hcz7_1⟩ := blk_cs2 BK395.out; obtain ⟨hfz7_0, hfz7_1⟩ := blk_fs2 BK395.out; obtain ⟨hcz8_0, hcz8_1⟩ := blk_cs2 BK396.out; obtain ⟨hfz8_0, hfz8_1⟩ := blk_fs2 BK396.out))
  go_loopg [5] k (fun kq v5 w' => ∃ (x5_1 : Int), v5 = .int .i64 x5_1 ∧ Aside0 (pairingref14_ComparePairings.l0 kq x5_1 a0_0 l0_1 a1_0 l1_1 = some r) ∧ Aside0 (kq ≤ k) ∧ Aside0 (w'.heap[gb395]? = some (.cells #[.string a0_0, (.slice A0_1 l0_1.length c0_1)] 43 (0, 0))) ∧ Aside0 (w'.heap[gb396]? = some (.cells #[.string a1_0, (.slice A1_1 l1_1.length c1_1)] 43 (0, 0))) ∧ Aside0 (Below w.heap.size w w'))
  case atStart => exact ⟨(0), (by first | rfl | (simp; done) | (simp [*]; done)), H', ⟨Nat.le_refl _⟩, ⟨by (with_reducible repeat (first | refine blk_drewN ?_ _ | refine blk_drew ?_ | refine blk_alloc ?_ _)); exact BK395.out⟩, ⟨by (with_reducible repeat (first | refine blk_drewN ?_ _ | refine blk_drew ?_ | refine blk_alloc ?_ _)); exact BK396.out⟩, ⟨hbk⟩⟩
  case round =>
   clear H'
   try clear c1
   try clear p2
   try clear c3
   try clear c3b0
   try clear c3b1
   try clear c6
   try clear hcz7_0
   try clear hcz7_1
   try clear hcz8_0
   try clear hcz8_1
   try clear hfz7_0
   try clear hfz7_1
   try clear hfz8_0
   try clear hfz8_1
   obtain ⟨x5_1, rfl, HA, HK1, BK395, BK396, HB⟩ := hrel
   cases gk with
   | zero => exact absurd HA.out (by simp [pairingref14_ComparePairings.l0])
   | succ k1 =>
    have H := HA.out
    clear HA
    simp only [pairingref14_ComparePairings.l0] at H
    have HC9 := Aside0.mk H
    clear H
    go_upto_region 6 with (fail)
    go_cut [28] (fun v28 wc => ∃ (kq : Nat) (x28_8 : Bool), v28 = .bool x28_8 ∧ Aside0 (pairingref14_ComparePairings.j1 kq x5_1 x28_8 a0_0 l0_1 a1_0 l1_1 = some r) ∧ Aside0 (kq ≤ k1) ∧ Aside0 (wc.heap[gb395]? = some (.cells #[.string a0_0, (.slice A0_1 l0_1.length c0_1)] 43 (0, 0))) ∧ Aside0 (wc.heap[gb396]? = some (.cells #[.string a1_0, (.slice A1_1 l1_1.length c1_1)] 43 (0, 0))) ∧ Aside0 (Below w.heap.size w wc))
    case first =>
     have H := HC9.out
     clear HC9
     by_cases c10 : x5_1 < (l0_1.length : Int)
     ·rw [if_pos c10] at H
      have c10b0 : decide (x5_1 < (l0_1.length : Int)) = true := decide_eq_true c10
      clear c10
      (first | rw [c10b0] | (simp only [i64_w, i32_w]; rw [c10b0]) | skip)
      have H' := Aside0.mk H
      clear H
      have hnb11 := NB395_396.out
      have hnc11 := NB396_395.out
      obtain ⟨hcz12_0, hcz12_1⟩ := blk_cs2 BK395.out
      obtain ⟨hfz12_0, hfz12_1⟩ := blk_fs2 BK395.out
      obtain ⟨hcz13_0, hcz13_1⟩ := blk_cs2 BK396.out
      obtain ⟨hfz13_0, hfz13_1⟩ := blk_fs2 BK396.out
      go_wp2
      go_meet
      case rel => exact ⟨_, (decide (x5_1 < (l1_1.length : Int))), (by first | rfl | (simp; done) | (simp [*]; done)), H', ⟨by have := HK1.out; first | omega | exact Nat.le_refl _⟩, ⟨by (with_reducible repeat (first | refine blk_drewN ?_ _ | refine blk_drew ?_ | refine blk_alloc ?_ _)); exact BK395.out⟩, ⟨by (with_reducible repeat (first | refine blk_drewN ?_ _ | refine blk_drew ?_ | refine blk_alloc ?_ _)); exact BK396.out⟩, ⟨hbk⟩⟩
     ·rw [if_neg c10] at H
      have c10b0 : decide (x5_1 < (l0_1.length : Int)) = false := decide_eq_false c10
      clear c10
      (first | rw [c10b0] | (simp only [i64_w, i32_w]; rw [c10b0]) | skip)
      have H' := Aside0.mk H
      clear H
      have hnb14 := NB395_396.out
      have hnc14 := NB396_395.out
      obtain ⟨hcz15_0, hcz15_1⟩ := blk_cs2 BK395.out
      obtain ⟨hfz15_0, hfz15_1⟩ := blk_fs2 BK395.out
      go_wp2
      go_meet
      case rel => exact ⟨_, (false), (by first | rfl | (simp; done) | (simp [*]; done)), H', ⟨by have := HK1.out; first | omega | exact Nat.le_refl _⟩, ⟨by (with_reducible repeat (first | refine blk_drewN ?_ _ | refine blk_drew ?_ | refine blk_alloc ?_ _)); exact BK395.out⟩, ⟨by (with_reducible repeat (first | refine blk_drewN ?_ _ | refine blk_drew ?_ | refine blk_alloc ?_ _)); exact BK396.out⟩, ⟨hbk⟩⟩
    case rest =>
     clear HC9
     try clear c1
     try clear p2
     try clear c3
     try clear c3b0
     try clear c3b1
     try clear c6
     try clear c10
     try clear c10b0
     try clear c11
     try clear c14
     try clear hcz12_0
     try clear hcz12_1
     try clear hcz13_0
     try clear hcz13_1
     try clear hcz15_0
     try clear hcz15_1
     try clear hcz7_0
     try clear hcz7_1
     try clear hcz8_0
     try clear hcz8_1
     try clear hfz12_0
     try clear hfz12_1
     try clear hfz13_0
     try clear hfz13_1
     try clear hfz15_0
     try clear hfz15_1
     try clear hfz7_0
     try clear hfz7_1
     try clear hfz8_0
     try clear hfz8_1
     try clear p2
     obtain ⟨kq, x28_8, rfl, HA, HJ8, BK395, BK396, HB⟩ := hcut
     cases kq with
     | zero => exact absurd HA.out (by simp [pairingref14_ComparePairings.j1])
     | succ kj8 =>
      have H := HA.out
      clear HA
      simp only [pairingref14_ComparePairings.j1] at H
      by_cases c16 : x28_8 = true
      ·subst c16
       have H1 : (if 0 ≤ x5_1 then (if x5_1 < (l0_1.length : Int) then (if x5_1 < (l1_1.length : Int) then ((pairingref14_CompareDuties.f kj8 (rd_L31 l0_1 x5_1) (rd_L31 l1_1 x5_1)).bind fun t399 => (if t399 = 0 then (pairingref14_ComparePairings.l0 kj8 (wrap64 (x5_1 + 1)) a0_0 l0_1 a1_0 l1_1) else (some t399))) else (none)) else (none)) else (none)) = some r := by rw [if_pos rfl] at H; exact H
       clear H
       have H := H1
       clear H1
       by_cases c17 : 0 ≤ x5_1
       ·rw [if_pos c17] at H
        have c17b0 : decide (0 ≤ x5_1) = true := decide_eq_true c17
        clear c17
        by_cases c18 : x5_1 < (l0_1.length : Int)
        ·rw [if_pos c18] at H
         have c18b0 : decide (x5_1 < (l0_1.length : Int)) = true := decide_eq_true c18
         clear c18
         by_cases c19 : x5_1 < (l1_1.length : Int)
         ·rw [if_pos c19] at H
          have c19b0 : decide (x5_1 < (l1_1.length : Int)) = true := decide_eq_true c19
          clear c19
          replace H := Option.bind_eq_some_iff.mp H
          obtain ⟨t399, A200, H⟩ := H
          replace H : (if t399 = 0 then (pairingref14_ComparePairings.l0 kj8 (wrap64 (x5_1 + 1)) a0_0 l0_1 a1_0 l1_1) else (some t399)) = some r := H
          have A20 := Aside0.mk A200
          clear A200
          by_cases c21 : t399 = 0
          ·rw [if_pos c21] at H
           have c21b0 : (t399 == 0) = true := beq_iff_eq.mpr c21
           have c21b1 : (t399 != 0) = false := bne_eq_false_iff_eq.mpr c21
           clear c21
           have H' := Aside0.mk H
           clear H
           try go_wp2
           replace BK395 := Aside0.mk (blk_drew BK395.out)
           replace BK396 := Aside0.mk (blk_drew BK396.out)
           replace HB := Aside0.mk (below_drew1 HB.out)
           have p397 : 0 ≤ (x5_1 : Int) := of_decide_eq_true (by first | (with_reducible assumption) | assumption)
           have q397 : x5_1 < (l0_1.length : Int) := of_decide_eq_true (by first | (with_reducible assumption) | assumption)
           obtain ⟨ad397, A397_0, c397_0, e397, hx397_0, hl397_0, hi397_0⟩ := at_L31 HR0_1.out x5_1 p397 q397
           have hw397_0 := hx397_0
           cases e397
           replace hx397_0 := (HB.out.cell (World.block_lt_of_cell? w _ hx397_0)).trans hx397_0
           have HR397_0 := Aside0.mk hi397_0
           have HC397_0 := Aside0.mk hl397_0
           clear hi397_0 hl397_0
           replace p397 := eq_true p397
           replace q397 := eq_true q397
           have p398 : 0 ≤ (x5_1 : Int) := of_decide_eq_true (by first | (with_reducible assumption) | assumption)
           have q398 : x5_1 < (l1_1.length : Int) := of_decide_eq_true (by first | (with_reducible assumption) | assumption)
           obtain ⟨ad398, A398_0, c398_0, e398, hx398_0, hl398_0, hi398_0⟩ := at_L31 HR1_1.out x5_1 p398 q398
           have hw398_0 := hx398_0
           cases e398
           replace hx398_0 := (HB.out.cell (World.block_lt_of_cell? w _ hx398_0)).trans hx398_0
           have HR398_0 := Aside0.mk hi398_0
           have HC398_0 := Aside0.mk hl398_0
           clear hi398_0 hl398_0
           replace p398 := eq_true p398
           replace q398 := eq_true q398
           refine start_ (n := 12) (S := fun w' => w'.cell? ⟨gb395, 0, none⟩ = some (.string a0_0) ∧ w'.cell? ⟨gb395, 1, none⟩ = some (.slice (some ad397) l0_1.length c0_1) ∧ w'.cell? ⟨gb396, 0, none⟩ = some (.string a1_0) ∧ w'.cell? ⟨gb396, 1, none⟩ = some (.slice (some ad398) l1_1.length c1_1) ∧ w'.cell? (ad397.add (x5_1).toNat) = some (.slice A397_0 (rd_L31 l0_1 x5_1).length c397_0) ∧ w'.cell? (ad398.add (x5_1).toNat) = some (.slice A398_0 (rd_L31 l1_1 x5_1).length c398_0)) (ds := []) #[false, false, false, false, false, false, false, false, false, false, false, false] (by kernel_rfl) rfl rfl ⟨(blk_cell BK395.out 0).trans rfl, (blk_cell BK395.out 1).trans rfl, (blk_cell BK396.out 0).trans rfl, (blk_cell BK396.out 1).trans rfl, ((HB.out.cell (World.block_lt_of_cell? w _ hw397_0)).trans hw397_0), ((HB.out.cell (World.block_lt_of_cell? w _ hw398_0)).trans hw398_0)⟩ (fun hHeld => ?_); refine with_tabW pairingref14_ComparePairings.tab8 pairingref14_ComparePairings.bits8 (fun HT_ HW_ => ?_)
           generalize wc.drew = w22 at BK395 BK396 HB HR397_0 HR398_0 hx397_0 hx398_0 hHeld ⊢
           refine pure_ (i := 0) (N := some 31) (v := ?_) (a' := ?_) #[true, false, false, false, false, false, false, false, false, false, false, false] rfl rfl (any_of HT_.out (by kernel_rfl)) (fun _ _ _ h => h) (Or.inl ⟨by rfl, ?_⟩) ?_ ?_
           rotate_left
           ·intro w'
            go_simp
            with_reducible rfl
           rotate_left
           ·simp only [Act.put, List.setIfInBounds_toArray, List.set_cons_zero, List.set_cons_succ, i64_w, i32_w]
            rfl
           refine pure_ (i := 2) (N := some 33) (v := ?_) (a' := ?_) #[true, false, true, false, false, false, false, false, false, false, false, false] rfl rfl (any_of HT_.out (by kernel_rfl)) (fun _ _ _ h => h) (Or.inl ⟨by rfl, ?_⟩) ?_ ?_
           rotate_left
           ·intro w'
            go_simp
            with_reducible rfl
           rotate_left
           ·simp only [Act.put, List.setIfInBounds_toArray, List.set_cons_zero, List.set_cons_succ, i64_w, i32_w]
            rfl
           refine pure_ (i := 5) (N := some 36) (v := ?_) (a' := ?_) #[true, false, true, false, false, true, false, false, false, false, false, false] rfl rfl (any_of HT_.out (by kernel_rfl)) (fun _ _ _ h => h) (Or.inl ⟨by rfl, ?_⟩) ?_ ?_
           rotate_left
           ·intro w'
            go_simp
            with_reducible rfl
           rotate_left
           ·simp only [Act.put, List.setIfInBounds_toArray, List.set_cons_zero, List.set_cons_succ, i64_w, i32_w]
            rfl
           refine pure_ (i := 7) (N := some 38) (v := ?_) (a' := ?_) #[true, false, true, false, false, true, false, true, false, false, false, false] rfl rfl (any_of HT_.out (by kernel_rfl)) (fun _ _ _ h => h) (Or.inl ⟨by rfl, ?_⟩) ?_ ?_
           rotate_left
           ·intro w'
            go_simp
            with_reducible rfl
           rotate_left
           ·simp only [Act.put, List.setIfInBounds_toArray, List.set_cons_zero, List.set_cons_succ, i64_w, i32_w]
            rfl
           refine take_ (i := 1) (N := some 32) (v := ?_) (a' := ?_) #[true, true, true, false, false, true, false, true, false, false, false, false] rfl rfl (take_ofW HT_.out HW_.out (by kernel_rfl)) (fun _ _ _ h => h) (Or.inl ⟨by rfl, ?_⟩) hHeld ?_ ?_
           rotate_left
           ·rintro w' ⟨s0, s1, s2, s3, s4, s5⟩
            go_simp
            with_reducible rfl
           rotate_left
           ·simp only [Act.put, List.setIfInBounds_toArray, List.set_cons_zero, List.set_cons_succ, i64_w, i32_w]
            rfl
           refine pure_ (i := 3) (N := some 34) (v := ?_) (a' := ?_) #[true, true, true, true, false, true, false, true, false, false, false, false] rfl rfl (any_of HT_.out (by kernel_rfl)) (fun _ _ _ h => h) (Or.inl ⟨by rfl, ?_⟩) ?_ ?_
           rotate_left
           ·intro w'
            go_simp
            with_reducible rfl
           rotate_left
           ·simp only [Act.put, List.setIfInBounds_toArray, List.set_cons_zero, List.set_cons_succ, i64_w, i32_w]
            rfl
           refine take_ (i := 4) (N := some 35) (v := ?_) (a' := ?_) #[true, true, true, true, true, true, false, true, false, false, false, false] rfl rfl (take_ofW HT_.out HW_.out (by kernel_rfl)) (fun _ _ _ h => h) (Or.inl ⟨by rfl, ?_⟩) hHeld ?_ ?_
           rotate_left
           ·rintro w' ⟨s0, s1, s2, s3, s4, s5⟩
            go_simp
            with_reducible rfl
           rotate_left
           ·simp only [Act.put, List.setIfInBounds_toArray, List.set_cons_zero, List.set_cons_succ, i64_w, i32_w]
            rfl
           refine take_ (i := 6) (N := some 37) (v := ?_) (a' := ?_) #[true, true, true, true, true, true, true, true, false, false, false, false] rfl rfl (take_ofW HT_.out HW_.out (by kernel_rfl)) (fun _ _ _ h => h) (Or.inl ⟨by rfl, ?_⟩) hHeld ?_ ?_
           rotate_left
           ·rintro w' ⟨s0, s1, s2, s3, s4, s5⟩
            go_simp
            with_reducible rfl
           rotate_left
           ·simp only [Act.put, List.setIfInBounds_toArray, List.set_cons_zero, List.set_cons_succ, i64_w, i32_w]
            rfl
           refine pure_ (i := 8) (N := some 39) (v := ?_) (a' := ?_) #[true, true, true, true, true, true, true, true, true, false, false, false] rfl rfl (any_of HT_.out (by kernel_rfl)) (fun _ _ _ h => h) (Or.inl ⟨by rfl, ?_⟩) ?_ ?_
           rotate_left
           ·intro w'
            go_simp
            with_reducible rfl
           rotate_left
           ·simp only [Act.put, List.setIfInBounds_toArray, List.set_cons_zero, List.set_cons_succ, i64_w, i32_w]
            rfl
           refine take_ (i := 9) (N := some 40) (v := ?_) (a' := ?_) #[true, true, true, true, true, true, true, true, true, true, false, false] rfl rfl (take_ofW HT_.out HW_.out (by kernel_rfl)) (fun _ _ _ h => h) (Or.inl ⟨by rfl, ?_⟩) hHeld ?_ ?_
           rotate_left
           ·rintro w' ⟨s0, s1, s2, s3, s4, s5⟩
            go_simp
            with_reducible rfl
           rotate_left
           ·simp only [Act.put, List.setIfInBounds_toArray, List.set_cons_zero, List.set_cons_succ, i64_w, i32_w]
            rfl
           refine one_ (i := 10) (N := some 41) #[true, true, true, true, true, true, true, true, true, true, true, false] rfl rfl (one_of HT_.out (by kernel_rfl)) (by decide) (fun K hK => ?_)
           refine goes_ Tryz.func16 (by kernel_rfl) rfl #[.slice A397_0 (rd_L31 l0_1 x5_1).length c397_0, .slice A398_0 (rd_L31 l1_1 x5_1).length c398_0] (by rfl) rfl rfl hgl ?_
           with_reducible refine (pairingref14_CompareDuties.calls kj8 _ _ (rd_L31 l0_1 x5_1) _ _ (rd_L31 l1_1 x5_1) t399 _ ?side1 ?side2 ?side3 ?side4 A20.out).mono ?_
           (case side1 => exact Kd.C_below HR397_0.out hbk)
           (case side2 => exact HC397_0.out)
           (case side3 => exact Kd.C_below HR398_0.out hbk)
           (case side4 => exact HC398_0.out)
           rintro e w23 ⟨rfl, hb⟩
           refine ⟨_, rfl, ?_⟩
           replace BK395 := Aside0.mk (blk_belowB BK395.out hb)
           replace BK396 := Aside0.mk (blk_belowB BK396.out hb)
           replace HB := Aside0.mk (below_step hbk hb)
           (try clear hb)
           (try clear hb2)
           (try clear hk)
           (try clear hi)
           refine hK.out _ _ ⟨(blk_cell BK395.out 0).trans rfl, (blk_cell BK395.out 1).trans rfl, (blk_cell BK396.out 0).trans rfl, (blk_cell BK396.out 1).trans rfl, ((HB.out.cell (World.block_lt_of_cell? w _ hw397_0)).trans hw397_0), ((HB.out.cell (World.block_lt_of_cell? w _ hw398_0)).trans hw398_0)⟩ (fun hHeld => ?_)
           clear hK K
           refine norm_ (a' := ?_) ?_ ?_
           rotate_left
           ·show Act.put _ (some 41) _ = _
            simp only [Act.put, List.setIfInBounds_toArray, List.set_cons_zero, List.set_cons_succ, i64_w, i32_w]
            rfl
           refine pure_ (i := 11) (N := some 6) (v := ?_) (a' := ?_) #[true, true, true, true, true, true, true, true, true, true, true, true] rfl rfl (any_of HT_.out (by kernel_rfl)) (fun _ _ _ h => h) (Or.inl ⟨by rfl, ?_⟩) ?_ ?_
           rotate_left
           ·intro w'
            go_simp
            with_reducible rfl
           rotate_left
           ·simp only [Act.put, List.setIfInBounds_toArray, List.set_cons_zero, List.set_cons_succ, i64_w, i32_w]
            rfl
           refine done_ (done_of HT_.out (by kernel_rfl)) ?_
           try go_wp2
           go_roundg kj8
           case measure => have := HK1.out; have := HJ8.out; omega
           case rel => exact ⟨(wrap64 (x5_1 + 1)), (by first | rfl | (simp; done) | (simp [*]; done)), H', ⟨by have := HK1.out; have := HJ8.out; omega⟩, ⟨by (with_reducible repeat (first | refine blk_drewN ?_ _ | refine blk_drew ?_ | refine blk_alloc ?_ _)); exact BK395.out⟩, ⟨by (with_reducible repeat (first | refine blk_drewN ?_ _ | refine blk_drew ?_ | refine blk_alloc ?_ _)); exact BK396.out⟩, ⟨hbk⟩⟩
          ·rw [if_neg c21] at H
           have c21b0 : (t399 == 0) = false := beq_eq_false_iff_ne.mpr c21
           have c21b1 : (t399 != 0) = true := bne_iff_ne.mpr c21
           obtain rfl := Option.some.inj H
           try go_wp2
           replace BK395 := Aside0.mk (blk_drew BK395.out)
           replace BK396 := Aside0.mk (blk_drew BK396.out)
           replace HB := Aside0.mk (below_drew1 HB.out)
           have p397 : 0 ≤ (x5_1 : Int) := of_decide_eq_true (by first | (with_reducible assumption) | assumption)
           have q397 : x5_1 < (l0_1.length : Int) := of_decide_eq_true (by first | (with_reducible assumption) | assumption)
           obtain ⟨ad397, A397_0, c397_0, e397, hx397_0, hl397_0, hi397_0⟩ := at_L31 HR0_1.out x5_1 p397 q397
           have hw397_0 := hx397_0
           cases e397
           replace hx397_0 := (HB.out.cell (World.block_lt_of_cell? w _ hx397_0)).trans hx397_0
           have HR397_0 := Aside0.mk hi397_0
           have HC397_0 := Aside0.mk hl397_0
           clear hi397_0 hl397_0
           replace p397 := eq_true p397
           replace q397 := eq_true q397
           have p398 : 0 ≤ (x5_1 : Int) := of_decide_eq_true (by first | (with_reducible assumption) | assumption)
           have q398 : x5_1 < (l1_1.length : Int) := of_decide_eq_true (by first | (with_reducible assumption) | assumption)
           obtain ⟨ad398, A398_0, c398_0, e398, hx398_0, hl398_0, hi398_0⟩ := at_L31 HR1_1.out x5_1 p398 q398
           have hw398_0 := hx398_0
           cases e398
           replace hx398_0 := (HB.out.cell (World.block_lt_of_cell? w _ hx398_0)).trans hx398_0
           have HR398_0 := Aside0.mk hi398_0
           have HC398_0 := Aside0.mk hl398_0
           clear hi398_0 hl398_0
           replace p398 := eq_true p398
           replace q398 := eq_true q398
           refine start_ (n := 12) (S := fun w' => w'.cell? ⟨gb395, 0, none⟩ = some (.string a0_0) ∧ w'.cell? ⟨gb395, 1, none⟩ = some (.slice (some ad397) l0_1.length c0_1) ∧ w'.cell? ⟨gb396, 0, none⟩ = some (.string a1_0) ∧ w'.cell? ⟨gb396, 1, none⟩ = some (.slice (some ad398) l1_1.length c1_1) ∧ w'.cell? (ad397.add (x5_1).toNat) = some (.slice A397_0 (rd_L31 l0_1 x5_1).length c397_0) ∧ w'.cell? (ad398.add (x5_1).toNat) = some (.slice A398_0 (rd_L31 l1_1 x5_1).length c398_0)) (ds := []) #[false, false, false, false, false, false, false, false, false, false, false, false] (by kernel_rfl) rfl rfl ⟨(blk_cell BK395.out 0).trans rfl, (blk_cell BK395.out 1).trans rfl, (blk_cell BK396.out 0).trans rfl, (blk_cell BK396.out 1).trans rfl, ((HB.out.cell (World.block_lt_of_cell? w _ hw397_0)).trans hw397_0), ((HB.out.cell (World.block_lt_of_cell? w _ hw398_0)).trans hw398_0)⟩ (fun hHeld => ?_); refine with_tabW pairingref14_ComparePairings.tab8 pairingref14_ComparePairings.bits8 (fun HT_ HW_ => ?_)
           generalize wc.drew = w24 at BK395 BK396 HB HR397_0 HR398_0 hx397_0 hx398_0 hHeld ⊢
           refine pure_ (i := 0) (N := some 31) (v := ?_) (a' := ?_) #[true, false, false, false, false, false, false, false, false, false, false, false] rfl rfl (any_of HT_.out (by kernel_rfl)) (fun _ _ _ h => h) (Or.inl ⟨by rfl, ?_⟩) ?_ ?_
           rotate_left
           ·intro w'
            go_simp
            with_reducible rfl
           rotate_left
           ·simp only [Act.put, List.setIfInBounds_toArray, List.set_cons_zero, List.set_cons_succ, i64_w, i32_w]
            rfl
           refine pure_ (i := 2) (N := some 33) (v := ?_) (a' := ?_) #[true, false, true, false, false, false, false, false, false, false, false, false] rfl rfl (any_of HT_.out (by kernel_rfl)) (fun _ _ _ h => h) (Or.inl ⟨by rfl, ?_⟩) ?_ ?_
           rotate_left
           ·intro w'
            go_simp
            with_reducible rfl
           rotate_left
           ·simp only [Act.put, List.setIfInBounds_toArray, List.set_cons_zero, List.set_cons_succ, i64_w, i32_w]
            rfl
           refine pure_ (i := 5) (N := some 36) (v := ?_) (a' := ?_) #[true, false, true, false, false, true, false, false, false, false, false, false] rfl rfl (any_of HT_.out (by kernel_rfl)) (fun _ _ _ h => h) (Or.inl ⟨by rfl, ?_⟩) ?_ ?_
           rotate_left
           ·intro w'
            go_simp
            with_reducible rfl
           rotate_left
           ·simp only [Act.put, List.setIfInBounds_toArray, List.set_cons_zero, List.set_cons_succ, i64_w, i32_w]
            rfl
           refine pure_ (i := 7) (N := some 38) (v := ?_) (a' := ?_) #[true, false, true, false, false, true, false, true, false, false, false, false] rfl rfl (any_of HT_.out (by kernel_rfl)) (fun _ _ _ h => h) (Or.inl ⟨by rfl, ?_⟩) ?_ ?_
           rotate_left
           ·intro w'
            go_simp
            with_reducible rfl
           rotate_left
           ·simp only [Act.put, List.setIfInBounds_toArray, List.set_cons_zero, List.set_cons_succ, i64_w, i32_w]
            rfl
           refine take_ (i := 1) (N := some 32) (v := ?_) (a' := ?_) #[true, true, true, false, false, true, false, true, false, false, false, false] rfl rfl (take_ofW HT_.out HW_.out (by kernel_rfl)) (fun _ _ _ h => h) (Or.inl ⟨by rfl, ?_⟩) hHeld ?_ ?_
           rotate_left
           ·rintro w' ⟨s0, s1, s2, s3, s4, s5⟩
            go_simp
            with_reducible rfl
           rotate_left
           ·simp only [Act.put, List.setIfInBounds_toArray, List.set_cons_zero, List.set_cons_succ, i64_w, i32_w]
            rfl
           refine pure_ (i := 3) (N := some 34) (v := ?_) (a' := ?_) #[true, true, true, true, false, true, false, true, false, false, false, false] rfl rfl (any_of HT_.out (by kernel_rfl)) (fun _ _ _ h => h) (Or.inl ⟨by rfl, ?_⟩) ?_ ?_
           rotate_left
           ·intro w'
            go_simp
            with_reducible rfl
           rotate_left
           ·simp only [Act.put, List.setIfInBounds_toArray, List.set_cons_zero, List.set_cons_succ, i64_w, i32_w]
            rfl
           refine take_ (i := 4) (N := some 35) (v := ?_) (a' := ?_) #[true, true, true, true, true, true, false, true, false, false, false, false] rfl rfl (take_ofW HT_.out HW_.out (by kernel_rfl)) (fun _ _ _ h => h) (Or.inl ⟨by rfl, ?_⟩) hHeld ?_ ?_
           rotate_left
           ·rintro w' ⟨s0, s1, s2, s3, s4, s5⟩
            go_simp
            with_reducible rfl
           rotate_left
           ·simp only [Act.put, List.setIfInBounds_toArray, List.set_cons_zero, List.set_cons_succ, i64_w, i32_w]
            rfl
           refine take_ (i := 6) (N := some 37) (v := ?_) (a' := ?_) #[true, true, true, true, true, true, true, true, false, false, false, false] rfl rfl (take_ofW HT_.out HW_.out (by kernel_rfl)) (fun _ _ _ h => h) (Or.inl ⟨by rfl, ?_⟩) hHeld ?_ ?_
           rotate_left
           ·rintro w' ⟨s0, s1, s2, s3, s4, s5⟩
            go_simp
            with_reducible rfl
           rotate_left
           ·simp only [Act.put, List.setIfInBounds_toArray, List.set_cons_zero, List.set_cons_succ, i64_w, i32_w]
            rfl
           refine pure_ (i := 8) (N := some 39) (v := ?_) (a' := ?_) #[true, true, true, true, true, true, true, true, true, false, false, false] rfl rfl (any_of HT_.out (by kernel_rfl)) (fun _ _ _ h => h) (Or.inl ⟨by rfl, ?_⟩) ?_ ?_
           rotate_left
           ·intro w'
            go_simp
            with_reducible rfl
           rotate_left
           ·simp only [Act.put, List.setIfInBounds_toArray, List.set_cons_zero, List.set_cons_succ, i64_w, i32_w]
            rfl
           refine take_ (i := 9) (N := some 40) (v := ?_) (a' := ?_) #[true, true, true, true, true, true, true, true, true, true, false, false] rfl rfl (take_ofW HT_.out HW_.out (by kernel_rfl)) (fun _ _ _ h => h) (Or.inl ⟨by rfl, ?_⟩) hHeld ?_ ?_
           rotate_left
           ·rintro w' ⟨s0, s1, s2, s3, s4, s5⟩
            go_simp
            with_reducible rfl
           rotate_left
           ·simp only [Act.put, List.setIfInBounds_toArray, List.set_cons_zero, List.set_cons_succ, i64_w, i32_w]
            rfl
           refine one_ (i := 10) (N := some 41) #[true, true, true, true, true, true, true, true, true, true, true, false] rfl rfl (one_of HT_.out (by kernel_rfl)) (by decide) (fun K hK => ?_)
           refine goes_ Tryz.func16 (by kernel_rfl) rfl #[.slice A397_0 (rd_L31 l0_1 x5_1).length c397_0, .slice A398_0 (rd_L31 l1_1 x5_1).length c398_0] (by rfl) rfl rfl hgl ?_
           with_reducible refine (pairingref14_CompareDuties.calls kj8 _ _ (rd_L31 l0_1 x5_1) _ _ (rd_L31 l1_1 x5_1) t399 _ ?side1 ?side2 ?side3 ?side4 A20.out).mono ?_
           (case side1 => exact Kd.C_below HR397_0.out hbk)
           (case side2 => exact HC397_0.out)
           (case side3 => exact Kd.C_below HR398_0.out hbk)
           (case side4 => exact HC398_0.out)
           rintro e w25 ⟨rfl, hb⟩
           refine ⟨_, rfl, ?_⟩
           replace BK395 := Aside0.mk (blk_belowB BK395.out hb)
           replace BK396 := Aside0.mk (blk_belowB BK396.out hb)
           replace HB := Aside0.mk (below_step hbk hb)
           (try clear hb)
           (try clear hb2)
           (try clear hk)
           (try clear hi)
           refine hK.out _ _ ⟨(blk_cell BK395.out 0).trans rfl, (blk_cell BK395.out 1).trans rfl, (blk_cell BK396.out 0).trans rfl, (blk_cell BK396.out 1).trans rfl, ((HB.out.cell (World.block_lt_of_cell? w _ hw397_0)).trans hw397_0), ((HB.out.cell (World.block_lt_of_cell? w _ hw398_0)).trans hw398_0)⟩ (fun hHeld => ?_)
           clear hK K
           refine norm_ (a' := ?_) ?_ ?_
           rotate_left
           ·show Act.put _ (some 41) _ = _
            simp only [Act.put, List.setIfInBounds_toArray, List.set_cons_zero, List.set_cons_succ, i64_w, i32_w]
            rfl
           refine pure_ (i := 11) (N := some 6) (v := ?_) (a' := ?_) #[true, true, true, true, true, true, true, true, true, true, true, true] rfl rfl (any_of HT_.out (by kernel_rfl)) (fun _ _ _ h => h) (Or.inl ⟨by rfl, ?_⟩) ?_ ?_
           rotate_left
           ·intro w'
            go_simp
            with_reducible rfl
           rotate_left
           ·simp only [Act.put, List.setIfInBounds_toArray, List.set_cons_zero, List.set_cons_succ, i64_w, i32_w]
            rfl
           refine done_ (done_of HT_.out (by kernel_rfl)) ?_
           try go_wp2
           go_ret
           exact ⟨hrf, hbk⟩
         ·rw [if_neg c19] at H
          exact absurd H (by simp)
        ·rw [if_neg c18] at H
         exact absurd H (by simp)
       ·rw [if_neg c17] at H
        exact absurd H (by simp)
      ·replace c16 := Bool.eq_false_iff.mpr c16
       subst c16
       have H1 : ((pairingref14_compare.f (l0_1.length : Int) (l1_1.length : Int)).bind fun t400 => (some t400)) = some r := by rw [if_neg (show ¬ (false = true) by decide)] at H; exact H
       clear H
       have H := H1
       clear H1
       replace H := Option.bind_eq_some_iff.mp H
       obtain ⟨t400, A260, H⟩ := H
       replace H : (some t400) = some r := H
       have A26 := Aside0.mk A260
       clear A260
       obtain rfl := Option.some.inj H
       have hnb27 := NB395_396.out
       have hnc27 := NB396_395.out
       obtain ⟨hcz28_0, hcz28_1⟩ := blk_cs2 BK395.out
       obtain ⟨hfz28_0, hfz28_1⟩ := blk_fs2 BK395.out
       obtain ⟨hcz29_0, hcz29_1⟩ := blk_cs2 BK396.out
       obtain ⟨hfz29_0, hfz29_1⟩ := blk_fs2 BK396.out
       go_wp2_with (first | ((with_reducible refine gate_callee (f := 41) rfl ?_); refine goesL_ (some 51) rfl rfl Tryz.func41 (by kernel_rfl) rfl #[.int .i64 (l0_1.length : Int), .int .i64 (l1_1.length : Int)] rfl hgl ?_; (with_reducible refine (pairingref14_compare.calls (l0_1.length : Int) (l1_1.length : Int) t400 _ A26.out).mono ?_); rintro e w' ⟨rfl, ⟨nd, rfl⟩⟩; refine ⟨_, rfl, ?_⟩))
       go_ret
       exact ⟨hrf, hbk⟩
 ·rw [if_neg c3] at H
  have c3b0 : (a0_0.toList == a1_0.toList) = false := beq_eq_false_iff_ne.mpr c3
  have c3b1 : (a0_0.toList != a1_0.toList) = true := bne_iff_ne.mpr c3
  by_cases c30 : (Op.bytesLess a0_0.toList a1_0.toList) = true
  ·rw [if_pos c30] at H
   have c30b0 : (Op.bytesLess a0_0.toList a1_0.toList) = true := c30
   clear c30
   obtain rfl := Option.some.inj H
   go_enter Tryz.func14, Tryz.ntmps14
   go_wp2_with (first | ((with_reducible refine gate_dst (N := 2) rfl ?_); (try (refine gate_guard (by rfl) ?_; dsimp only)); refine box_event ?hg (N := 2) ?hd (cs := #[.string a0_0, .slice A0_1 l0_1.length c0_1]) (t := 43) ?hr ?_; (case hd => rfl); (case hg => rfl); (case hr => first | (go_simp; done) | (go_simp; rfl)); intro gb395 hg w31 hbox hb; have BK395 := Aside0.mk hbox; have GE395 := Aside0.mk ((by rw [hg]; exact (below_size hbk) : w.heap.size ≤ gb395)); replace HB := Aside0.mk (below_step hbk hb); clear hb hbox hg) | ((with_reducible refine gate_dst (N := 3) rfl ?_); (try (refine gate_guard (by rfl) ?_; dsimp only)); refine box_event ?hg (N := 3) ?hd (cs := #[.string a1_0, .slice A1_1 l1_1.length c1_1]) (t := 43) ?hr ?_; (case hd => rfl); (case hg => rfl); (case hr => first | (go_simp; done) | (go_simp; rfl)); intro gb396 hg w32 hbox hb; have BK396 := Aside0.mk hbox; have GE396 := Aside0.mk ((by rw [hg]; exact (below_size hbk) : w.heap.size ≤ gb396)); have NB395_396 := Aside0.mk ((by rw [hg]; exact Nat.ne_of_lt (blk_ltB BK395.out) : gb395 ≠ gb396)); have NB396_395 := Aside0.mk ((by rw [hg]; exact Nat.ne_of_gt (blk_ltB BK395.out) : gb396 ≠ gb395)); replace BK395 := Aside0.mk (blk_belowB BK395.out hb); replace HB := Aside0.mk (below_step hbk hb); clear hb hbox hg; have hnb33 := NB395_396.out; have hnc33 := NB396_395.out; obtain ⟨hcz34_0, hcz34_1⟩ := blk_cs2 BK395.out; obtain ⟨hfz34_0, hfz34_1⟩ := blk_fs2 BK395.out; obtain ⟨hcz35_0, hcz35_1⟩ := blk_cs2 BK396.out; obtain ⟨hfz35_0, hfz35_1⟩ := blk_fs2 BK396.out))
   go_ret
   exact ⟨hrf, hbk⟩
  ·rw [if_neg c30] at H
   have c30b0 : (Op.bytesLess a0_0.toList a1_0.toList) = false := by simpa using c30
   clear c30
   obtain rfl := Option.some.inj H
   go_enter Tryz.func14, Tryz.ntmps14
   go_wp2_with (first | ((with_reducible refine gate_dst (N := 2) rfl ?_); (try (refine gate_guard (by rfl) ?_; dsimp only)); refine box_event ?hg (N := 2) ?hd (cs := #[.string a0_0, .slice A0_1 l0_1.length c0_1]) (t := 43) ?hr ?_; (case hd => rfl); (case hg => rfl); (case hr => first | (go_simp; done) | (go_simp; rfl)); intro gb395 hg w36 hbox hb; have BK395 := Aside0.mk hbox; have GE395 := Aside0.mk ((by rw [hg]; exact (below_size hbk) : w.heap.size ≤ gb395)); replace HB := Aside0.mk (below_step hbk hb); clear hb hbox hg) | ((with_reducible refine gate_dst (N := 3) rfl ?_); (try (refine gate_guard (by rfl) ?_; dsimp only)); refine box_event ?hg (N := 3) ?hd (cs := #[.string a1_0, .slice A1_1 l1_1.length c1_1]) (t := 43) ?hr ?_; (case hd => rfl); (case hg => rfl); (case hr => first | (go_simp; done) | (go_simp; rfl)); intro gb396 hg w37 hbox hb; have BK396 := Aside0.mk hbox; have GE396 := Aside0.mk ((by rw [hg]; exact (below_size hbk) : w.heap.size ≤ gb396)); have NB395_396 := Aside0.mk ((by rw [hg]; exact Nat.ne_of_lt (blk_ltB BK395.out) : gb395 ≠ gb396)); have NB396_395 := Aside0.mk ((by rw [hg]; exact Nat.ne_of_gt (blk_ltB BK395.out) : gb396 ≠ gb395)); replace BK395 := Aside0.mk (blk_belowB BK395.out hb); replace HB := Aside0.mk (below_step hbk hb); clear hb hbox hg; have hnb38 := NB395_396.out; have hnc38 := NB396_395.out; obtain ⟨hcz39_0, hcz39_1⟩ := blk_cs2 BK395.out; obtain ⟨hfz39_0, hfz39_1⟩ := blk_fs2 BK395.out; obtain ⟨hcz40_0, hcz40_1⟩ := blk_cs2 BK396.out; obtain ⟨hfz40_0, hfz40_1⟩ := blk_fs2 BK396.out))
   go_ret
   exact ⟨hrf, hbk⟩
end Go.Proofs.YtilnppdognejbaaGreatDoor.P
namespace Go.Proofs.YtilnppdognejbaaGreatDoor.P
open Go.RowKit Go.Proofs.YtilnppdognejbaaGreatDoorW.PrintWords Go.Proofs.YtilnppdognejbaaGreatDoorW.PrintLast Go.Proofs.YtilnppdognejbaaGreatDoorW.PrintMore
attribute [local go_sem] max2_int min2_int max_two min_two max_three min_three max_four min_four   -- for this text's walks alone
set_option linter.unusedVariables false
set_option linter.unusedSimpArgs false
def pairinglaw15_LightPairing.l0 : Nat → Int → Int → ByteArray → List (List (S50)) → Option (Bool)
 | 0, _, _, _, _ => none
 | k + 1, x3, x4, x371000, x371001 => if x4 < (x371001.length : Int) then (if x3 < 1000 then (if 0 ≤ x4 then (pairinglaw15_LightPairing.l0 k (wrap64 ((wrap64 (x3 + 1)) + ((rd_L31 x371001 x4).length : Int))) (wrap64 (x4 + 1)) x371000 x371001) else (none)) else (some (decide (x3 < 100)))) else (some (decide (x3 < 100)))
def pairinglaw15_LightPairing.f (k : Nat) (a0_0 : ByteArray) (l0_1 : List (List (S50))) : Option (Bool) := pairinglaw15_LightPairing.l0 k 0 0 a0_0 l0_1
set_option maxHeartbeats 8000000 in
set_option maxRecDepth 100000 in
theorem pairinglaw15_LightPairing.calls (k : Nat) (a0_0 : ByteArray) (A0_1 : Option Addr) (c0_1 : Nat) (l0_1 : List (List (S50))) (r : Bool) (w : World) (hr0_1 : Kd.C (Kd.slice 50 k50) w A0_1 l0_1.length l0_1) (hc0_1 : l0_1.length ≤ c0_1) (h : pairinglaw15_LightPairing.f k a0_0 l0_1 = some r) :
  Calls Tryz.prog 10 #[.agg #[.string a0_0, .slice A0_1 l0_1.length c0_1]] w fun e w' => e = .returned (.bool r) ∧ Below w.heap.size w w' := by
 have hu43 := Tryz.underlying43
 have HR0_1 := Aside0.mk hr0_1
 have HC0_1 := Aside0.mk hc0_1
 clear hr0_1 hc0_1
 have HB := Aside0.mk (Below.refl w.heap.size w)
 have H : (pairinglaw15_LightPairing.l0 k 0 0 a0_0 l0_1) = some r := h
 clear h
 have H' := Aside0.mk H
 clear H
 go_enter Tryz.func10, Tryz.ntmps10
 go_wp2_with (first | ((with_reducible refine gate_dst (N := 1) rfl ?_); refine box_event ?hg (N := 1) ?hd (cs := #[.string a0_0, .slice A0_1 l0_1.length c0_1]) (t := 43) ?hr ?_; (case hd => rfl); (case hg => rfl); (case hr => first | (go_simp; done) | (go_simp; rfl)); intro gb370 hg w2 hbox hb; have BK370 := Aside0.mk hbox; have GE370 := Aside0.mk ((by rw [hg]; exact (below_size hbk) : w.heap.size ≤ gb370)); replace HB := Aside0.mk (below_step hbk hb); clear hb hbox hg))
 go_loopg [3, 4] k (fun kq v3 v4 w' => ∃ (x3_1 : Int) (x4_1 : Int), v3 = .int .i64 x3_1 ∧ v4 = .int .i64 x4_1 ∧ Aside0 (pairinglaw15_LightPairing.l0 kq x3_1 x4_1 a0_0 l0_1 = some r) ∧ Aside0 (kq ≤ k) ∧ Aside0 (w'.heap[gb370]? = some (.cells #[.string a0_0, (.slice A0_1 l0_1.length c0_1)] 43 (0, 0))) ∧ Aside0 (Below w.heap.size w w'))
 case atStart => exact ⟨(0), (0), (by first | rfl | (simp; done) | (simp [*]; done)), (by first | rfl | (simp; done) | (simp [*]; done)), H', ⟨Nat.le_refl _⟩, ⟨by (with_reducible repeat (first | refine blk_drewN ?_ _ | refine blk_drew ?_ | refine blk_alloc ?_ _)); exact BK370.out⟩, ⟨hbk⟩⟩
 case round =>
  clear H'
  try clear c1
  try clear p2
  obtain ⟨x3_1, x4_1, rfl, rfl, HA, HK1, BK370, HB⟩ := hrel
  cases gk with
  | zero => exact absurd HA.out (by simp [pairinglaw15_LightPairing.l0])
  | succ k1 =>
   have H := HA.out
   clear HA
   simp only [pairinglaw15_LightPairing.l0] at H
   by_cases c3 : x4_1 < (l0_1.length : Int)
   ·rw [if_pos c3] at H
    have c3b0 : decide (x4_1 < (l0_1.length : Int)) = true := decide_eq_true c3
    clear c3
    by_cases c4 : x3_1 < 1000
    ·rw [if_pos c4] at H
     have c4b0 : decide (x3_1 < 1000) = true := decide_eq_true c4
     clear c4
     by_cases c5 : 0 ≤ x4_1
     ·rw [if_pos c5] at H
      have c5b0 : decide (0 ≤ x4_1) = true := decide_eq_true c5
      clear c5
      have H' := Aside0.mk H
      clear H
      obtain ⟨hcz6_0, hcz6_1⟩ := blk_cs2 BK370.out
      obtain ⟨hfz6_0, hfz6_1⟩ := blk_fs2 BK370.out
      have p371 : 0 ≤ (x4_1 : Int) := of_decide_eq_true (by first | (with_reducible assumption) | assumption)
      have q371 : x4_1 < (l0_1.length : Int) := of_decide_eq_true (by first | (with_reducible assumption) | assumption)
      obtain ⟨ad371, A371_0, c371_0, e371, hx371_0, hl371_0, hi371_0⟩ := at_L31 HR0_1.out x4_1 p371 q371
      cases e371
      replace hx371_0 := (HB.out.cell (World.block_lt_of_cell? w _ hx371_0)).trans hx371_0
      have HR371_0 := Aside0.mk hi371_0
      have HC371_0 := Aside0.mk hl371_0
      clear hi371_0 hl371_0
      replace p371 := eq_true p371
      replace q371 := eq_true q371
      go_wp2
      go_roundg k1
      case measure => have := HK1.out; omega
      case rel => exact ⟨(wrap64 ((wrap64 (x3_1 + 1)) + ((rd_L31 l0_1 x4_1).length : Int))), (wrap64 (x4_1 + 1)), (by first | rfl | (simp; done) | (simp [*]; done)), (by first | rfl | (simp; done) | (simp [*]; done)), H', ⟨by have := HK1.out; omega⟩, ⟨by (with_reducible repeat (first | refine blk_drewN ?_ _ | refine blk_drew ?_ | refine blk_alloc ?_ _)); exact BK370.out⟩, ⟨hbk⟩⟩
     ·rw [if_neg c5] at H
      exact absurd H (by simp)
    ·rw [if_neg c4] at H
     have c4b0 : decide (x3_1 < 1000) = false := decide_eq_false c4
     clear c4
     obtain rfl := Option.some.inj H
     obtain ⟨hcz7_0, hcz7_1⟩ := blk_cs2 BK370.out
     obtain ⟨hfz7_0, hfz7_1⟩ := blk_fs2 BK370.out
     go_wp2
     go_ret
     exact ⟨hrf, hbk⟩
   ·rw [if_neg c3] at H
    have c3b0 : decide (x4_1 < (l0_1.length : Int)) = false := decide_eq_false c3
    clear c3
    obtain rfl := Option.some.inj H
    obtain ⟨hcz8_0, hcz8_1⟩ := blk_cs2 BK370.out
    obtain ⟨hfz8_0, hfz8_1⟩ := blk_fs2 BK370.out
    go_wp2
    go_ret
    exact ⟨hrf, hbk⟩
end Go.Proofs.YtilnppdognejbaaGreatDoor.P
namespace Go.Proofs.YtilnppdognejbaaGreatDoor.P
open Go.RowKit Go.Proofs.YtilnppdognejbaaGreatDoorW.PrintWords Go.Proofs.YtilnppdognejbaaGreatDoorW.PrintLast Go.Proofs.YtilnppdognejbaaGreatDoorW.PrintMore
attribute [local go_sem] max2_int min2_int max_two min_two max_three min_three max_four min_four   -- for this text's walks alone
set_option linter.unusedVariables false
set_option linter.unusedSimpArgs false
theorem attr20 (nm : ByteArray) (x0 : ByteArray) (x1 : Int) (g : Nat) (w : World) (hz : w.cell? ⟨g, 0, none⟩ = some (.string nm)) :
  Calls Tryz.prog 20 #[.agg #[.string x0, .int .i64 x1], .pointer (some ⟨g, 0, none⟩)] w fun e w' => e = .returned (.bool (x0.toList == nm.toList)) ∧ Below w.heap.size w w' := by
 have hu := Tryz.underlying62
 have HB := Aside0.mk (Below.refl w.heap.size w)
 have hz1 : (w.alloc (.cells #[.string x0, .int .i64 x1] 62)).cell? ⟨g, 0, none⟩ = some (.string nm) := (HB.out.trans (below_alloc HB.out _)).cell (World.block_lt_of_cell? w _ hz) |>.trans hz
 by_cases h : x0.toList = nm.toList
 ·have hb0 : (x0.toList == nm.toList) = true := beq_iff_eq.mpr h
  have hb1 : (x0.toList != nm.toList) = false := bne_eq_false_iff_eq.mpr h
  have HH := Aside0.mk hb0
  clear h
  go_enter Tryz.func20, Tryz.ntmps20
  go_wp2_with fail
  go_ret
  exact ⟨by rw [HH.out]; rfl, by repeat (first | exact HB.out | apply below_alloc | apply pw_below_drewN | apply below_drew1)⟩
 ·have hb0 : (x0.toList == nm.toList) = false := beq_eq_false_iff_ne.mpr h
  have hb1 : (x0.toList != nm.toList) = true := bne_iff_ne.mpr h
  have HH := Aside0.mk hb0
  clear h
  go_enter Tryz.func20, Tryz.ntmps20
  go_wp2_with fail
  go_ret
  exact ⟨by rw [HH.out]; rfl, by repeat (first | exact HB.out | apply below_alloc | apply pw_below_drewN | apply below_drew1)⟩
def isAt (nm : ByteArray) (x : S62) : Bool := x.f0.toList == nm.toList
def attrIx (l : List S62) (nm : ByteArray) : Int := if l.findIdx (isAt nm) < l.length then (l.findIdx (isAt nm) : Int) else -1
theorem rdA (l : List S62) (k : Nat) (h : k < l.length) : rd_T62 l (k : Int) = l[k] := by
 unfold rd_T62
 simp [h]
theorem attrIx_hit (l : List S62) (nm : ByteArray) (k : Nat) (hk : k < l.length) (h : isAt nm (rd_T62 l (k : Int)) = true) (hn : ∀ j : Nat, j < k → isAt nm (rd_T62 l (j : Int)) = false) : attrIx l nm = (k : Int) := by
 have e : l.findIdx (isAt nm) = k := by
  rw [List.findIdx_eq hk]
  refine ⟨by rw [← rdA l k hk]; exact h, fun j hj => ?_⟩
  rw [← rdA l j (Nat.lt_trans hj hk)]
  exact hn j hj
 unfold attrIx
 rw [e, if_pos hk]
theorem attrIx_miss (l : List S62) (nm : ByteArray) (hn : ∀ j : Nat, j < l.length → isAt nm (rd_T62 l (j : Int)) = false) : attrIx l nm = -1 := by
 have e : l.findIdx (isAt nm) = l.length := by
  rw [List.findIdx_eq_length]
  intro x hx
  obtain ⟨j, hj, rfl⟩ := List.getElem_of_mem hx
  rw [← rdA l j hj]
  exact hn j hj
 unfold attrIx
 rw [e, if_neg (Nat.lt_irrefl _)]
set_option maxRecDepth 100000 in
theorem attr19 (A : Option Addr) (c : Nat) (l : List S62) (nm : ByteArray) (g : Nat) (w : World) (hr : Kd.C k62 w A l.length l) (hz : w.cell? ⟨g, 0, none⟩ = some (.string nm)) (hl : l.length ≤ 1000) :
  Calls Tryz.prog 19 #[.slice A l.length c, .func (.func 20) #[] #[.pointer (some ⟨g, 0, none⟩)]] w fun e w' => e = .returned (.int .i64 (attrIx l nm)) ∧ Below w.heap.size w w' := by
 have hu := Tryz.underlying62
 have HB := Aside0.mk (Below.refl w.heap.size w)
 have HR := Aside0.mk hr
 have HZ := Aside0.mk hz
 clear hr hz
 go_enter Tryz.func19, Tryz.ntmps19
 go_wp2_with fail
 go_loopw [8] (fun v8 wr => ∃ k : Nat, k ≤ l.length ∧ v8 = .int .i64 (k : Int) ∧ Aside0 (∀ j : Nat, j < k → isAt nm (rd_T62 l (j : Int)) = false) ∧ Aside0 (Below w.heap.size w wr)) (fun v8 _ => l.length - (intOf v8).toNat)
 case atStart => exact ⟨0, Nat.zero_le _, rfl, ⟨fun j h => by omega⟩, ⟨by repeat (first | exact HB.out | apply below_alloc | apply pw_below_drewN | apply below_drew1)⟩⟩
 case round =>
  clear HB
  obtain ⟨k, hk, rfl, HA, HB⟩ := hrel
  by_cases hlt : k < l.length
  ·have b1 : decide ((k : Int) < (l.length : Int)) = true := decide_eq_true (by omega)
   have p0 : 0 ≤ (k : Int) := by omega
   have q0 : (k : Int) < (l.length : Int) := by omega
   obtain ⟨ad, e, hc0, hc1⟩ := at_T62 (Kd.C_below HR.out HB.out) (k : Int) p0 q0
   subst e
   simp only [Int.toNat_natCast] at hc0 hc1
   have hz1 : wr.cell? ⟨g, 0, none⟩ = some (.string nm) := (HB.out.cell (World.block_lt_of_cell? w _ HZ.out)).trans HZ.out
   have HZ1 := Aside0.mk hz1
   clear hz1
   replace p0 := eq_true p0
   replace q0 := eq_true q0
   by_cases hn : isAt nm (rd_T62 l (k : Int)) = true
   ·have HN := Aside0.mk hn
    have HK := Aside0.mk hlt
    unfold isAt at hn
    go_wp2_with (first | (go_at_call 20; (with_reducible refine (attr20 nm _ _ g _ ?hz).mono ?_); (case hz => exact HZ1.out); rintro e w1 ⟨rfl, hb⟩; have HB1 := Aside0.mk (below_step HB.out hb); clear hb))
    go_ret
    exact ⟨by rw [attrIx_hit l nm k HK.out HN.out HA.out]; rfl, by repeat (first | exact HB1.out | apply below_alloc | apply pw_below_drewN | apply below_drew1)⟩
   ·replace hn : isAt nm (rd_T62 l (k : Int)) = false := by simpa using hn
    have HN := Aside0.mk hn
    unfold isAt at hn
    go_wp2_with (first | (go_at_call 20; (with_reducible refine (attr20 nm _ _ g _ ?hz).mono ?_); (case hz => exact HZ1.out); rintro e w1 ⟨rfl, hb⟩; have HB1 := Aside0.mk (below_step HB.out hb); clear hb))
    go_roundw
    case rel => exact ⟨k + 1, by omega, by go_num, ⟨fun j hj => by
     by_cases e : j = k
     ·subst e; exact HN.out
     ·exact HA.out j (by omega)⟩, ⟨by repeat (first | exact HB1.out | apply below_alloc | apply pw_below_drewN | apply below_drew1)⟩⟩
    case measure => simp [intOf]; omega
  ·have b1 : decide ((k : Int) < (l.length : Int)) = false := decide_eq_false (by omega)
   have hf : attrIx l nm = -1 := attrIx_miss l nm (fun j hj => HA.out j (by omega))
   have HF := Aside0.mk hf
   clear hf
   go_wp2_with fail
   go_ret
   exact ⟨by rw [HF.out]; rfl, by repeat (first | exact HB.out | apply below_alloc | apply pw_below_drewN | apply below_drew1)⟩
def measure_Attribute.f (l0 : List (S62)) (a1 : ByteArray) : Option (Int × Int) := if l0.length ≤ 1000 then (if attrIx l0 a1 < 0 then some (0, 6) else some ((rd_T62 l0 (attrIx l0 a1)).f1, 0)) else none
theorem attrIx_lt (l : List S62) (nm : ByteArray) (h : ¬ attrIx l nm < 0) : 0 ≤ attrIx l nm ∧ attrIx l nm < (l.length : Int) := by
 unfold attrIx at h ⊢
 split
 ·omega
 ·rename_i h1; rw [if_neg h1] at h; omega
theorem measure_Attribute.calls (A0 : Option Addr) (c0 : Nat) (l0 : List (S62)) (a1 : ByteArray) (r1 : Int) (r2 : Int) (w : World) (hr0 : Kd.C k62 w A0 l0.length l0) (hc0 : l0.length ≤ c0) (h : measure_Attribute.f l0 a1 = some (r1, r2)) :
  Calls Tryz.prog 7 #[.slice A0 l0.length c0, .string a1] w fun e w' => e = .returned (.tuple #[.int .i64 r1, .int .i64 r2]) ∧ Below w.heap.size w w' := by
 have hu := Tryz.underlying62
 unfold measure_Attribute.f at h
 by_cases hl : l0.length ≤ 1000
 ·rw [if_pos hl] at h
  have HL := Aside0.mk hl
  have HR := Aside0.mk hr0
  have HB := Aside0.mk (Below.refl w.heap.size w)
  clear hl hr0 hc0
  by_cases hm : attrIx l0 a1 < 0
  ·rw [if_pos hm] at h
   have hd : decide (attrIx l0 a1 < 0) = true := decide_eq_true hm
   clear hm
   obtain ⟨rfl, rfl⟩ := Prod.mk.inj (Option.some.inj h)
   clear h
   go_enter Tryz.func7, Tryz.ntmps7
   go_wp2_with (first | (go_at_call 19; (refine (attr19 A0 c0 l0 a1 w.heap.size _ ?hr ?hz HL.out).mono ?_); (case hr => exact Kd.C_below HR.out (by repeat (first | exact HB.out | apply below_alloc | apply pw_below_drewN | apply below_drew1))); (case hz => go_simp); rintro e w1 ⟨rfl, hb⟩; have HB1 := Aside0.mk (below_step (by repeat (first | exact HB.out | apply below_alloc | apply pw_below_drewN | apply below_drew1)) hb); clear hb))
   go_ret2
   exact ⟨rfl, by repeat (first | exact HB1.out | apply below_alloc | apply pw_below_drewN | apply below_drew1)⟩
  ·rw [if_neg hm] at h
   have hd : decide (attrIx l0 a1 < 0) = false := decide_eq_false hm
   have HM := Aside0.mk (attrIx_lt l0 a1 hm)
   clear hm
   obtain ⟨rfl, rfl⟩ := Prod.mk.inj (Option.some.inj h)
   clear h
   go_enter Tryz.func7, Tryz.ntmps7
   go_wp2_with (first | (go_at_call 19; (refine (attr19 A0 c0 l0 a1 w.heap.size _ ?hr ?hz HL.out).mono ?_); (case hr => exact Kd.C_below HR.out (by repeat (first | exact HB.out | apply below_alloc | apply pw_below_drewN | apply below_drew1))); (case hz => go_simp); rintro e w1 ⟨rfl, hb⟩; have HB1 := Aside0.mk (below_step (by repeat (first | exact HB.out | apply below_alloc | apply pw_below_drewN | apply below_drew1)) hb); clear hb; obtain ⟨ad, e, hc0, hc1⟩ := at_T62 (Kd.C_below HR.out HB1.out) (attrIx l0 a1) HM.out.1 HM.out.2; subst e; have p0 := eq_true HM.out.1; have q0 := eq_true HM.out.2))
   go_ret2
   exact ⟨rfl, by repeat (first | exact HB1.out | apply below_alloc | apply pw_below_drewN | apply below_drew1)⟩
 ·rw [if_neg hl] at h
  cases h
end Go.Proofs.YtilnppdognejbaaGreatDoor.P
namespace Go.Proofs.YtilnppdognejbaaGreatDoor.P
open Go.RowKit Go.Proofs.YtilnppdognejbaaGreatDoorW.PrintWords Go.Proofs.YtilnppdognejbaaGreatDoorW.PrintLast Go.Proofs.YtilnppdognejbaaGreatDoorW.PrintMore
attribute [local go_sem] max2_int min2_int max_two min_two max_three min_three max_four min_four   -- for this text's walks alone
set_option linter.unusedVariables false
set_option linter.unusedSimpArgs false
def pairingbase_Zones.f  : Option ((List (S83))) := some (([(⟨(⟨#[117, 116, 99]⟩ : ByteArray), 0, ([] : List (S120))⟩ : S83), (⟨(⟨#[111, 115, 108, 111]⟩ : ByteArray), 60, (([(⟨1441500, 120⟩ : S120), (⟨1444000, 60⟩ : S120)] : List (S120)))⟩ : S83), (⟨(⟨#[121, 111, 114, 107]⟩ : ByteArray), (-300), (([(⟨1442900, (-240)⟩ : S120)] : List (S120)))⟩ : S83)] : List (S83)))
set_option maxHeartbeats 8000000 in
set_option maxRecDepth 100000 in
theorem pairingbase_Zones.calls  (r : List (S83)) (w : World) (h : pairingbase_Zones.f  = some r) :
  Calls Tryz.prog 45 #[] w fun e w' => ∃ v0_ : Value, e = .returned (v0_) ∧ Kd.N k83 83 w' w.heap.size (fun k_ => (w.heap.size ≤ k_)) v0_ r ∧ Below w.heap.size w w' := by
 have hu83 := Tryz.underlying83
 have hu120 := Tryz.underlying120
 have HB := Aside0.mk (Below.refl w.heap.size w)
 have H : (some (([(⟨(⟨#[117, 116, 99]⟩ : ByteArray), 0, ([] : List (S120))⟩ : S83), (⟨(⟨#[111, 115, 108, 111]⟩ : ByteArray), 60, (([(⟨1441500, 120⟩ : S120), (⟨1444000, 60⟩ : S120)] : List (S120)))⟩ : S83), (⟨(⟨#[121, 111, 114, 107]⟩ : ByteArray), (-300), (([(⟨1442900, (-240)⟩ : S120)] : List (S120)))⟩ : S83)] : List (S83)))) = some r := h
 clear h
 obtain ⟨y101, hy101⟩ : ∃ y_ : List (S120), y_ = (([(⟨1441500, 120⟩ : S120), (⟨1444000, 60⟩ : S120)] : List (S120))) := ⟨_, rfl⟩
 replace H : (some (([(⟨(⟨#[117, 116, 99]⟩ : ByteArray), 0, ([] : List (S120))⟩ : S83), (⟨(⟨#[111, 115, 108, 111]⟩ : ByteArray), 60, y101⟩ : S83), (⟨(⟨#[121, 111, 114, 107]⟩ : ByteArray), (-300), (([(⟨1442900, (-240)⟩ : S120)] : List (S120)))⟩ : S83)] : List (S83)))) = some r := by first | (rw [hy101]; with_reducible exact H) | (have H2_ := (Option.bind_some _ _).symm.trans H; rw [hy101]; with_reducible exact H2_) | (have H2_ := (Option.bind_some _ _).symm.trans H; with_reducible exact H2_) | with_reducible exact H | (rw [hy101]; exact H) | exact H
 have Ny101 := Aside0.mk hy101
 clear hy101
 obtain ⟨y104, hy104⟩ : ∃ y_ : List (S120), y_ = (([(⟨1442900, (-240)⟩ : S120)] : List (S120))) := ⟨_, rfl⟩
 replace H : (some (([(⟨(⟨#[117, 116, 99]⟩ : ByteArray), 0, ([] : List (S120))⟩ : S83), (⟨(⟨#[111, 115, 108, 111]⟩ : ByteArray), 60, y101⟩ : S83), (⟨(⟨#[121, 111, 114, 107]⟩ : ByteArray), (-300), y104⟩ : S83)] : List (S83)))) = some r := by first | (rw [hy104]; with_reducible exact H) | (have H2_ := (Option.bind_some _ _).symm.trans H; rw [hy104]; with_reducible exact H2_) | (have H2_ := (Option.bind_some _ _).symm.trans H; with_reducible exact H2_) | with_reducible exact H | (rw [hy104]; exact H) | exact H
 have Ny104 := Aside0.mk hy104
 clear hy104
 obtain ⟨y107, hy107⟩ : ∃ y_ : List (S83), y_ = (([(⟨(⟨#[117, 116, 99]⟩ : ByteArray), 0, ([] : List (S120))⟩ : S83), (⟨(⟨#[111, 115, 108, 111]⟩ : ByteArray), 60, y101⟩ : S83), (⟨(⟨#[121, 111, 114, 107]⟩ : ByteArray), (-300), y104⟩ : S83)] : List (S83))) := ⟨_, rfl⟩
 replace H : (some y107) = some r := by first | (rw [hy107]; with_reducible exact H) | (have H2_ := (Option.bind_some _ _).symm.trans H; rw [hy107]; with_reducible exact H2_) | (have H2_ := (Option.bind_some _ _).symm.trans H; with_reducible exact H2_) | with_reducible exact H | (rw [hy107]; exact H) | exact H
 have Ny107 := Aside0.mk hy107
 clear hy107
 obtain rfl := Option.some.inj H
 go_enter Tryz.func45, Tryz.ntmps45
 go_wp2_with (first | ((with_reducible refine gate_dst (N := 4) rfl ?_); refine Kd.R_lit k120 _ 120 ?hg (N := 4) ?hd (xs := ([(⟨1441500, 120⟩ : S120), (⟨1444000, 60⟩ : S120)] : List (S120))) (inner := [.int .i64 1441500, .int .i64 120, .int .i64 1444000, .int .i64 60]) (ok := fun _ => True) (okp := fun _ => True) ?hr ?hp (fun _ hk => hk) trivial (Below.refl _ _) (Nat.le_refl _) (by simp) ?_; (case hd => rfl); (case hg => rfl); (case hr => first | (go_simp; done) | (go_simp; rfl)); (case hp => exact (Reps.c2 (show Kd.M k120 _ _ _ (⟨1441500, 120⟩ : S120) [.int .i64 1441500, .int .i64 120] from (k120_mkM _ _ _ (⟨1441500, 120⟩ : S120) )) (Reps.c2 (show Kd.M k120 _ _ _ (⟨1444000, 60⟩ : S120) [.int .i64 1444000, .int .i64 60] from (k120_mkM _ _ _ (⟨1444000, 60⟩ : S120) )) (Reps.none _ _)))); intro v102 w1 ho2 hb hg_ hnew_; clear hg_ hnew_; (first | rw [← Ny101.out] at ho2 | (simp only [Int.reduceToNat] at ho2; rw [← Ny101.out] at ho2)); have HO103 := Aside0.mk (Kd.R_lower (Kd.R_newM (M := fun k_ => (w.heap.size ≤ k_)) ho2 (below_size hbk) (fun k_ h_ => h_)) (below_size hbk)); replace HB := Aside0.mk (below_step hbk hb); clear hb ho2; obtain ⟨Ao3, co3, eo3⟩ := Kd.R_slice HO103.out; subst eo3) | ((with_reducible refine gate_dst (N := 7) rfl ?_); refine Kd.R_lit k120 _ 120 ?hg (N := 7) ?hd (xs := ([(⟨1442900, (-240)⟩ : S120)] : List (S120))) (inner := [.int .i64 1442900, .int .i64 (-240)]) (ok := fun _ => True) (okp := fun _ => True) ?hr ?hp (fun _ hk => hk) trivial (Below.refl _ _) (Nat.le_refl _) (by simp) ?_; (case hd => rfl); (case hg => rfl); (case hr => first | (go_simp; done) | (go_simp; rfl)); (case hp => exact (Reps.c2 (show Kd.M k120 _ _ _ (⟨1442900, (-240)⟩ : S120) [.int .i64 1442900, .int .i64 (-240)] from (k120_mkM _ _ _ (⟨1442900, (-240)⟩ : S120) )) (Reps.none _ _))); intro v105 w4 ho5 hb hg_ hnew_; clear hg_ hnew_; (first | rw [← Ny104.out] at ho5 | (simp only [Int.reduceToNat] at ho5; rw [← Ny104.out] at ho5)); have HO106 := Aside0.mk (Kd.R_lower (Kd.R_new' (Kd.R_newM (M := fun k_ => (w.heap.size ≤ k_)) ho5 (below_size hbk) (fun k_ h_ => h_)) (Kd.R_lt hro)) (below_size hbk)); replace HO103 := Aside0.mk (Kd.R_elder' hro (Kd.R_base ho5) hb); replace HB := Aside0.mk (below_step hbk hb); clear hb ho5; obtain ⟨Ao6, co6, eo6⟩ := Kd.R_slice HO106.out; subst eo6) | ((with_reducible refine gate_dst (N := 9) rfl ?_); refine Kd.N_lit k83 _ 83 ?hg (N' := 9) ?hd (xs := ([(⟨(⟨#[117, 116, 99]⟩ : ByteArray), 0, ([] : List (S120))⟩ : S83), (⟨(⟨#[111, 115, 108, 111]⟩ : ByteArray), 60, y101⟩ : S83), (⟨(⟨#[121, 111, 114, 107]⟩ : ByteArray), (-300), y104⟩ : S83)] : List (S83))) (inner := [.string (⟨#[117, 116, 99]⟩ : ByteArray), .int .i64 0, .slice none 0 0, .string (⟨#[111, 115, 108, 111]⟩ : ByteArray), .int .i64 60, .slice Ao3 y101.length co3, .string (⟨#[121, 111, 114, 107]⟩ : ByteArray), .int .i64 (-300), .slice Ao6 y104.length co6]) (ok := (fun k_ => (w.heap.size ≤ k_))) (okp := (fun k_ => (w.heap.size ≤ k_))) ?hr ?hp (fun _ hk => hk) ((show ∀ k_, w4.heap.size ≤ k_ → (fun k_ => (w.heap.size ≤ k_)) k_ from fun k_ hk => (Nat.le_trans (below_size hbk) hk)) _ (Nat.le_refl _)) (Below.refl _ _) (Nat.le_refl _) (by simp) ?_; (case hd => rfl); (case hg => rfl); (case hr => first | (go_simp; done) | (go_simp; rfl)); (case hp => exact (Reps.c3 (show Kd.FK k83 _ _ (⟨(⟨#[117, 116, 99]⟩ : ByteArray), 0, ([] : List (S120))⟩ : S83) [.string (⟨#[117, 116, 99]⟩ : ByteArray), .int .i64 0, .slice none 0 0] from (k83_mkF _ _ (⟨(⟨#[117, 116, 99]⟩ : ByteArray), 0, ([] : List (S120))⟩ : S83) (Nat.le_refl _) (Kd.F_nil _ _ _))) (Reps.c3 (show Kd.FK k83 _ _ (⟨(⟨#[111, 115, 108, 111]⟩ : ByteArray), 60, y101⟩ : S83) [.string (⟨#[111, 115, 108, 111]⟩ : ByteArray), .int .i64 60, .slice Ao3 y101.length co3] from (k83_mkF _ _ (⟨(⟨#[111, 115, 108, 111]⟩ : ByteArray), 60, y101⟩ : S83) (Kd.R_reads' (Kd.R_mono (ok' := (fun k_ => (w.heap.size ≤ k_))) (HO103.out) (fun k_ hk => hk.1.1))).2.1 (Kd.R_F (Kd.R_mono (ok' := (fun k_ => (w.heap.size ≤ k_))) (HO103.out) (fun k_ hk => hk.1.1))))) (Reps.c3 (show Kd.FK k83 _ _ (⟨(⟨#[121, 111, 114, 107]⟩ : ByteArray), (-300), y104⟩ : S83) [.string (⟨#[121, 111, 114, 107]⟩ : ByteArray), .int .i64 (-300), .slice Ao6 y104.length co6] from (k83_mkF _ _ (⟨(⟨#[121, 111, 114, 107]⟩ : ByteArray), (-300), y104⟩ : S83) (Kd.R_reads' (Kd.R_mono (ok' := (fun k_ => (w.heap.size ≤ k_))) (HO106.out) (fun k_ hk => hk.1.1))).2.1 (Kd.R_F (Kd.R_mono (ok' := (fun k_ => (w.heap.size ≤ k_))) (HO106.out) (fun k_ hk => hk.1.1))))) (Reps.none _ _))))); intro v108 w7 ho8 hb hg_ hnew_; clear hg_ hnew_; (first | rw [← Ny107.out] at ho8 | (simp only [Int.reduceToNat] at ho8; rw [← Ny107.out] at ho8)); have HO109 := Aside0.mk (Kd.N_lower ho8 (below_size hbk)); replace HB := Aside0.mk (below_step hbk hb); clear HO103 HO106; clear hb ho8))
 go_ret
 exact ⟨_, hrf, by (with_reducible repeat (first | apply Kd.N_alloc | apply Kd.N_drewN | apply Kd.N_drew)); exact HO109.out, hbk⟩
end Go.Proofs.YtilnppdognejbaaGreatDoor.P
namespace Go.Proofs.YtilnppdognejbaaGreatDoor.P
open Go.RowKit Go.Proofs.YtilnppdognejbaaGreatDoorW.PrintWords Go.Proofs.YtilnppdognejbaaGreatDoorW.PrintLast Go.Proofs.YtilnppdognejbaaGreatDoorW.PrintMore
attribute [local go_sem] max2_int min2_int max_two min_two max_three min_three max_four min_four   -- for this text's walks alone
set_option linter.unusedVariables false
set_option linter.unusedSimpArgs false
def pairingbase_Airports.f  : Option ((List (S86))) := some (([(⟨(⟨#[65, 65, 65]⟩ : ByteArray), (⟨#[117, 116, 99]⟩ : ByteArray)⟩ : S86), (⟨(⟨#[66, 66, 66]⟩ : ByteArray), (⟨#[111, 115, 108, 111]⟩ : ByteArray)⟩ : S86), (⟨(⟨#[67, 67, 67]⟩ : ByteArray), (⟨#[121, 111, 114, 107]⟩ : ByteArray)⟩ : S86)] : List (S86)))
set_option maxHeartbeats 8000000 in
set_option maxRecDepth 100000 in
theorem pairingbase_Airports.calls  (r : List (S86)) (w : World) (h : pairingbase_Airports.f  = some r) :
  Calls Tryz.prog 46 #[] w fun e w' => ∃ v0_ : Value, e = .returned (v0_) ∧ Kd.R k86 86 w' w.heap.size (fun _ => True) v0_ r ∧ Below w.heap.size w w' := by
 have hu86 := Tryz.underlying86
 have HB := Aside0.mk (Below.refl w.heap.size w)
 have H : (some (([(⟨(⟨#[65, 65, 65]⟩ : ByteArray), (⟨#[117, 116, 99]⟩ : ByteArray)⟩ : S86), (⟨(⟨#[66, 66, 66]⟩ : ByteArray), (⟨#[111, 115, 108, 111]⟩ : ByteArray)⟩ : S86), (⟨(⟨#[67, 67, 67]⟩ : ByteArray), (⟨#[121, 111, 114, 107]⟩ : ByteArray)⟩ : S86)] : List (S86)))) = some r := h
 clear h
 obtain ⟨y110, hy110⟩ : ∃ y_ : List (S86), y_ = (([(⟨(⟨#[65, 65, 65]⟩ : ByteArray), (⟨#[117, 116, 99]⟩ : ByteArray)⟩ : S86), (⟨(⟨#[66, 66, 66]⟩ : ByteArray), (⟨#[111, 115, 108, 111]⟩ : ByteArray)⟩ : S86), (⟨(⟨#[67, 67, 67]⟩ : ByteArray), (⟨#[121, 111, 114, 107]⟩ : ByteArray)⟩ : S86)] : List (S86))) := ⟨_, rfl⟩
 replace H : (some y110) = some r := by first | (rw [hy110]; with_reducible exact H) | (have H2_ := (Option.bind_some _ _).symm.trans H; rw [hy110]; with_reducible exact H2_) | (have H2_ := (Option.bind_some _ _).symm.trans H; with_reducible exact H2_) | with_reducible exact H | (rw [hy110]; exact H) | exact H
 have Ny110 := Aside0.mk hy110
 clear hy110
 obtain rfl := Option.some.inj H
 go_enter Tryz.func46, Tryz.ntmps46
 go_wp2_with (first | ((with_reducible refine gate_dst (N := 4) rfl ?_); refine Kd.R_lit k86 _ 86 ?hg (N := 4) ?hd (xs := ([(⟨(⟨#[65, 65, 65]⟩ : ByteArray), (⟨#[117, 116, 99]⟩ : ByteArray)⟩ : S86), (⟨(⟨#[66, 66, 66]⟩ : ByteArray), (⟨#[111, 115, 108, 111]⟩ : ByteArray)⟩ : S86), (⟨(⟨#[67, 67, 67]⟩ : ByteArray), (⟨#[121, 111, 114, 107]⟩ : ByteArray)⟩ : S86)] : List (S86))) (inner := [.string (⟨#[65, 65, 65]⟩ : ByteArray), .string (⟨#[117, 116, 99]⟩ : ByteArray), .string (⟨#[66, 66, 66]⟩ : ByteArray), .string (⟨#[111, 115, 108, 111]⟩ : ByteArray), .string (⟨#[67, 67, 67]⟩ : ByteArray), .string (⟨#[121, 111, 114, 107]⟩ : ByteArray)]) (ok := fun _ => True) (okp := fun _ => True) ?hr ?hp (fun _ hk => hk) trivial (Below.refl _ _) (Nat.le_refl _) (by simp) ?_; (case hd => rfl); (case hg => rfl); (case hr => first | (go_simp; done) | (go_simp; rfl)); (case hp => exact (Reps.c2 (show Kd.M k86 _ _ _ (⟨(⟨#[65, 65, 65]⟩ : ByteArray), (⟨#[117, 116, 99]⟩ : ByteArray)⟩ : S86) [.string (⟨#[65, 65, 65]⟩ : ByteArray), .string (⟨#[117, 116, 99]⟩ : ByteArray)] from (k86_mkM _ _ _ (⟨(⟨#[65, 65, 65]⟩ : ByteArray), (⟨#[117, 116, 99]⟩ : ByteArray)⟩ : S86) )) (Reps.c2 (show Kd.M k86 _ _ _ (⟨(⟨#[66, 66, 66]⟩ : ByteArray), (⟨#[111, 115, 108, 111]⟩ : ByteArray)⟩ : S86) [.string (⟨#[66, 66, 66]⟩ : ByteArray), .string (⟨#[111, 115, 108, 111]⟩ : ByteArray)] from (k86_mkM _ _ _ (⟨(⟨#[66, 66, 66]⟩ : ByteArray), (⟨#[111, 115, 108, 111]⟩ : ByteArray)⟩ : S86) )) (Reps.c2 (show Kd.M k86 _ _ _ (⟨(⟨#[67, 67, 67]⟩ : ByteArray), (⟨#[121, 111, 114, 107]⟩ : ByteArray)⟩ : S86) [.string (⟨#[67, 67, 67]⟩ : ByteArray), .string (⟨#[121, 111, 114, 107]⟩ : ByteArray)] from (k86_mkM _ _ _ (⟨(⟨#[67, 67, 67]⟩ : ByteArray), (⟨#[121, 111, 114, 107]⟩ : ByteArray)⟩ : S86) )) (Reps.none _ _))))); intro v111 w1 ho2 hb hg_ hnew_; clear hg_ hnew_; (first | rw [← Ny110.out] at ho2 | (simp only [Int.reduceToNat] at ho2; rw [← Ny110.out] at ho2)); have HO112 := Aside0.mk (Kd.R_lower ho2 (below_size hbk)); replace HB := Aside0.mk (below_step hbk hb); clear hb ho2))
 go_ret
 exact ⟨_, hrf, by (with_reducible repeat (first | apply Kd.R_alloc | apply Kd.R_drewN | apply Kd.R_drew)); exact HO112.out, hbk⟩
end Go.Proofs.YtilnppdognejbaaGreatDoor.P
