/- Walks: each Go function named below, called with what its Lean function answers, returns just that; and the words of the print that they use (wip/xprint.py, wip/shrink.py, wip/prune.py over the kit's print; some by hand). Conditions: those in each theorem. -/
import Derived.Test.YtilnppdognejbaaGreatDoorProg
import Derived.Below
import Derived.Deep.Draws
import Derived.Deep.AppendLies
import Derived.Maps.AppendAt
import Derived.OwnWalk
import Derived.Laws.BytesArg
import Derived.Laws.MakeOwn
import Derived.Laws.OwnMore
import Derived.Deep.OwnRows
import Derived.Tactics
import Derived.Lib.ConvBytes
import Derived.Laws.Slices
import Derived.WalkKit
import Derived.KernelRfl
import Derived.RowKit3
import Derived.Deep.LoopGhost
import Derived.Deep.QuietTactic
import Derived.BigQuiet
import Derived.WideLaws
import Derived.Deep.DeepCutAuto
import Derived.Deep.CutBlock
import Derived.Deep.RegionHeld3
import Derived.Laws.Rows
import Derived.Lib.AppendStr
import Derived.ArgAppend
import Derived.Laws.IdiomCopy
import Derived.OrdersHeld
import Derived.Laws.BitsLemmas
import Derived.RowKit
import Derived.Test.YtilnppdognejbaaGreatDoorRows
import Derived.ProofKit
import Derived.OpenShut
import Derived.ShutString
import Derived.ChangeOld
import Derived.SizedLaws
import Derived.Lib.SmallJoins
import Derived.Lib.LaidTab
import Derived.Stop.LaidErr
import Derived.Test.YtilnppdognejbaaGreatDoorPl0
namespace Go.Proofs.YtilnppdognejbaaGreatDoor.P
open Go.RowKit Go.Proofs.YtilnppdognejbaaGreatDoorW.PrintWords Go.Proofs.YtilnppdognejbaaGreatDoorW.PrintLast Go.Proofs.YtilnppdognejbaaGreatDoorW.PrintMore
attribute [local go_sem] max2_int min2_int max_two min_two max_three min_three max_four min_four   -- for this text's walks alone
set_option linter.unusedVariables false
set_option linter.unusedSimpArgs false
def errW : Option Int → Value
  | none => .nilIface
  | some c => .iface 0 (.int .i64 c)
theorem errW_none : errW none = .nilIface := rfl
theorem errW_some (c : Int) : errW (some c) = .iface 0 (.int .i64 c) := rfl
theorem info62 : (Tryz.prog.info? 62).map (fun i => (i.zero, i.size, i.bytes)) = some (some (.agg #[(.string ⟨#[]⟩), (.int .i64 0)]), 2, 24) := by kernel_rfl
theorem info114 : (Tryz.prog.info? 114).map (fun i => (i.zero, i.size, i.bytes)) = some (some (.agg #[(.int .i64 0), (.int .i64 0)]), 2, 16) := by kernel_rfl
theorem info148 : (Tryz.prog.info? 148).map (fun i => (i.zero, i.size, i.bytes)) = some (some (.agg #[(.int .i64 0), (.int .i64 0), (.int .i64 0)]), 3, 24) := by kernel_rfl
structure S62 where
  f0 : ByteArray
  f1 : Int
def z62 : S62 := ⟨(⟨#[]⟩ : ByteArray), (0 : Int)⟩
def k62 : Kd S62 := Kd.iso (Kd.pair Kd.string (Kd.int .i64)) (fun x : S62 => (x.f0, x.f1))
theorem k62_open {w : World} {x : S62} {cs : List Value} (h : k62.K w x cs) : cs = [.string x.f0, .int .i64 x.f1] := by
  obtain ⟨_, _, rfl, rfl, rfl⟩ := h
  exact rfl
theorem k62_openM {w : World} {base : Nat} {ok : Nat → Prop} {x : S62} {cs : List Value} (h : k62.M w base ok x cs) : cs = [.string x.f0, .int .i64 x.f1] := by
  obtain ⟨_, _, rfl, rfl, rfl⟩ := h
  exact rfl
theorem k62_mk (w : World) (x : S62)  : k62.K w x [.string x.f0, .int .i64 x.f1] := ⟨[.string x.f0], [.int .i64 x.f1], rfl, rfl, rfl⟩
theorem k62_mkM (w : World) (base : Nat) (ok : Nat → Prop) (x : S62)  : k62.M w base ok x [.string x.f0, .int .i64 x.f1] := ⟨[.string x.f0], [.int .i64 x.f1], rfl, rfl, rfl⟩
def rd_T62 (xs : List S62) (i : Int) : S62 := xs.getD i.toNat z62
theorem at_T62 {w : World} {A : Option Addr} {n : Nat} {xs : List S62} (h : Kd.C k62 w A n xs) (i : Int) (h0 : 0 ≤ i) (h1 : i < n) : ∃ ad , A = some ad ∧ w.cell? (ad.add (i.toNat * 2)) = some (.string (rd_T62 xs i).f0) ∧ w.cell? ⟨(ad.add (i.toNat * 2)).block, (ad.add (i.toNat * 2)).off + 1, none⟩ = some (.int .i64 (rd_T62 xs i).f1) := by
  obtain ⟨ad, c, e, _, hK, hc0⟩ := Kd.C_get h z62 i h0 h1
  have hc : ∀ j u, c[j]? = some u → w.cell? (ad.add (i.toNat * 2 + j)) = some u := hc0
  obtain rfl := k62_open hK
  exact ⟨ad, e, hc 0 _ rfl, by rw [← add_field _ _ 1 (by omega)]; exact hc 1 _ rfl⟩
structure S120 where
  f0 : Int
  f1 : Int
def z120 : S120 := ⟨(0 : Int), (0 : Int)⟩
def k120 : Kd S120 := Kd.iso (Kd.pair (Kd.int .i64) (Kd.int .i64)) (fun x : S120 => (x.f0, x.f1))
theorem k120_open {w : World} {x : S120} {cs : List Value} (h : k120.K w x cs) : cs = [.int .i64 x.f0, .int .i64 x.f1] := by
  obtain ⟨_, _, rfl, rfl, rfl⟩ := h
  exact rfl
theorem k120_mkM (w : World) (base : Nat) (ok : Nat → Prop) (x : S120)  : k120.M w base ok x [.int .i64 x.f0, .int .i64 x.f1] := ⟨[.int .i64 x.f0], [.int .i64 x.f1], rfl, rfl, rfl⟩
def rd_T120 (xs : List S120) (i : Int) : S120 := xs.getD i.toNat z120
theorem at_T120 {w : World} {A : Option Addr} {n : Nat} {xs : List S120} (h : Kd.C k120 w A n xs) (i : Int) (h0 : 0 ≤ i) (h1 : i < n) : ∃ ad , A = some ad ∧ w.cell? (ad.add (i.toNat * 2)) = some (.int .i64 (rd_T120 xs i).f0) ∧ w.cell? ⟨(ad.add (i.toNat * 2)).block, (ad.add (i.toNat * 2)).off + 1, none⟩ = some (.int .i64 (rd_T120 xs i).f1) := by
  obtain ⟨ad, c, e, _, hK, hc0⟩ := Kd.C_get h z120 i h0 h1
  have hc : ∀ j u, c[j]? = some u → w.cell? (ad.add (i.toNat * 2 + j)) = some u := hc0
  obtain rfl := k120_open hK
  exact ⟨ad, e, hc 0 _ rfl, by rw [← add_field _ _ 1 (by omega)]; exact hc 1 _ rfl⟩
structure S83 where
  f0 : ByteArray
  f1 : Int
  f2 : (List S120)
def z83 : S83 := ⟨(⟨#[]⟩ : ByteArray), (0 : Int), ([] : List S120)⟩
def k83 : Kd S83 := Kd.iso (Kd.pair Kd.string (Kd.pair (Kd.int .i64) (Kd.slice 120 k120))) (fun x : S83 => (x.f0, x.f1, x.f2))
theorem k83_open {w : World} {x : S83} {cs : List Value} (h : k83.K w x cs) : ∃ A2 c2, cs = [.string x.f0, .int .i64 x.f1, .slice A2 x.f2.length c2] ∧ x.f2.length ≤ c2 ∧ k120.C w A2 x.f2.length x.f2 := by
  obtain ⟨_, _, rfl, rfl, ⟨_, _, rfl, rfl, ⟨A2, c2, rfl, l2, g2⟩⟩⟩ := h
  exact ⟨A2, c2, rfl, l2, g2⟩
theorem k83_mk (w : World) (x : S83) {A2 : Option Addr} {c2 : Nat} (l2 : x.f2.length ≤ c2) (g2 : k120.C w A2 x.f2.length x.f2) : k83.K w x [.string x.f0, .int .i64 x.f1, .slice A2 x.f2.length c2] := ⟨[.string x.f0], [.int .i64 x.f1, .slice A2 x.f2.length c2], rfl, rfl, ⟨[.int .i64 x.f1], [.slice A2 x.f2.length c2], rfl, rfl, ⟨A2, c2, rfl, l2, g2⟩⟩⟩
theorem k83_mkF (W : World) (ok : Nat → Prop) (x : S83) {A2 : Option Addr} {c2 : Nat} (l2 : x.f2.length ≤ c2) (g2 : Kd.F k120 W ok A2 x.f2.length x.f2) : Kd.FK k83 W ok x [.string x.f0, .int .i64 x.f1, .slice A2 x.f2.length c2] := fun W2 hW => k83_mk W2 x l2 (g2 W2 hW)
def rd_T83 (xs : List S83) (i : Int) : S83 := xs.getD i.toNat z83
theorem at_T83 {w : World} {A : Option Addr} {n : Nat} {xs : List S83} (h : Kd.C k83 w A n xs) (i : Int) (h0 : 0 ≤ i) (h1 : i < n) : ∃ ad A2 c2, A = some ad ∧ w.cell? (ad.add (i.toNat * 3)) = some (.string (rd_T83 xs i).f0) ∧ w.cell? ⟨(ad.add (i.toNat * 3)).block, (ad.add (i.toNat * 3)).off + 1, none⟩ = some (.int .i64 (rd_T83 xs i).f1) ∧ w.cell? ⟨(ad.add (i.toNat * 3)).block, (ad.add (i.toNat * 3)).off + 2, none⟩ = some (.slice A2 (rd_T83 xs i).f2.length c2) ∧ (rd_T83 xs i).f2.length ≤ c2 ∧ k120.C w A2 (rd_T83 xs i).f2.length (rd_T83 xs i).f2 := by
  obtain ⟨ad, c, e, _, hK, hc0⟩ := Kd.C_get h z83 i h0 h1
  have hc : ∀ j u, c[j]? = some u → w.cell? (ad.add (i.toNat * 3 + j)) = some u := hc0
  obtain ⟨A2, c2, rfl, l2, g2⟩ := k83_open hK
  exact ⟨ad, A2, c2, e, hc 0 _ rfl, by rw [← add_field _ _ 1 (by omega)]; exact hc 1 _ rfl, by rw [← add_field _ _ 2 (by omega)]; exact hc 2 _ rfl, l2, g2⟩
structure S86 where
  f0 : ByteArray
  f1 : ByteArray
def z86 : S86 := ⟨(⟨#[]⟩ : ByteArray), (⟨#[]⟩ : ByteArray)⟩
def k86 : Kd S86 := Kd.iso (Kd.pair Kd.string Kd.string) (fun x : S86 => (x.f0, x.f1))
theorem k86_open {w : World} {x : S86} {cs : List Value} (h : k86.K w x cs) : cs = [.string x.f0, .string x.f1] := by
  obtain ⟨_, _, rfl, rfl, rfl⟩ := h
  exact rfl
theorem k86_mkM (w : World) (base : Nat) (ok : Nat → Prop) (x : S86)  : k86.M w base ok x [.string x.f0, .string x.f1] := ⟨[.string x.f0], [.string x.f1], rfl, rfl, rfl⟩
def rd_T86 (xs : List S86) (i : Int) : S86 := xs.getD i.toNat z86
theorem at_T86 {w : World} {A : Option Addr} {n : Nat} {xs : List S86} (h : Kd.C k86 w A n xs) (i : Int) (h0 : 0 ≤ i) (h1 : i < n) : ∃ ad , A = some ad ∧ w.cell? (ad.add (i.toNat * 2)) = some (.string (rd_T86 xs i).f0) ∧ w.cell? ⟨(ad.add (i.toNat * 2)).block, (ad.add (i.toNat * 2)).off + 1, none⟩ = some (.string (rd_T86 xs i).f1) := by
  obtain ⟨ad, c, e, _, hK, hc0⟩ := Kd.C_get h z86 i h0 h1
  have hc : ∀ j u, c[j]? = some u → w.cell? (ad.add (i.toNat * 2 + j)) = some u := hc0
  obtain rfl := k86_open hK
  exact ⟨ad, e, hc 0 _ rfl, by rw [← add_field _ _ 1 (by omega)]; exact hc 1 _ rfl⟩
structure S71 where
  f0 : Int
  f1 : Int
  f2 : Int
def z71 : S71 := ⟨(0 : Int), (0 : Int), (0 : Int)⟩
def k71 : Kd S71 := Kd.iso (Kd.pair (Kd.int .i64) (Kd.pair (Kd.int .i64) (Kd.int .i64))) (fun x : S71 => (x.f0, x.f1, x.f2))
theorem k71_open {w : World} {x : S71} {cs : List Value} (h : k71.K w x cs) : cs = [.int .i64 x.f0, .int .i64 x.f1, .int .i64 x.f2] := by
  obtain ⟨_, _, rfl, rfl, ⟨_, _, rfl, rfl, rfl⟩⟩ := h
  exact rfl
theorem k71_mkM (w : World) (base : Nat) (ok : Nat → Prop) (x : S71)  : k71.M w base ok x [.int .i64 x.f0, .int .i64 x.f1, .int .i64 x.f2] := ⟨[.int .i64 x.f0], [.int .i64 x.f1, .int .i64 x.f2], rfl, rfl, ⟨[.int .i64 x.f1], [.int .i64 x.f2], rfl, rfl, rfl⟩⟩
structure S73 where
  f0 : ByteArray
  f1 : ByteArray
  f2 : ByteArray
  f3 : Int
  f4 : Int
  f5 : ByteArray
  f6 : S71
def z73 : S73 := ⟨(⟨#[]⟩ : ByteArray), (⟨#[]⟩ : ByteArray), (⟨#[]⟩ : ByteArray), (0 : Int), (0 : Int), (⟨#[]⟩ : ByteArray), z71⟩
def k73 : Kd S73 := Kd.iso (Kd.pair Kd.string (Kd.pair Kd.string (Kd.pair Kd.string (Kd.pair (Kd.int .i64) (Kd.pair (Kd.int .i64) (Kd.pair Kd.string k71)))))) (fun x : S73 => (x.f0, x.f1, x.f2, x.f3, x.f4, x.f5, x.f6))
theorem k73_open {w : World} {x : S73} {cs : List Value} (h : k73.K w x cs) : cs = [.string x.f0, .string x.f1, .string x.f2, .int .i64 x.f3, .int .i64 x.f4, .string x.f5, .int .i64 x.f6.f0, .int .i64 x.f6.f1, .int .i64 x.f6.f2] := by
  obtain ⟨_, _, rfl, rfl, ⟨_, _, rfl, rfl, ⟨_, _, rfl, rfl, ⟨_, _, rfl, rfl, ⟨_, _, rfl, rfl, ⟨_, _, rfl, rfl, s6⟩⟩⟩⟩⟩⟩ := h
  obtain rfl := k71_open s6
  exact rfl
theorem k73_mkM (w : World) (base : Nat) (ok : Nat → Prop) (x : S73)  : k73.M w base ok x [.string x.f0, .string x.f1, .string x.f2, .int .i64 x.f3, .int .i64 x.f4, .string x.f5, .int .i64 x.f6.f0, .int .i64 x.f6.f1, .int .i64 x.f6.f2] := ⟨[.string x.f0], [.string x.f1, .string x.f2, .int .i64 x.f3, .int .i64 x.f4, .string x.f5, .int .i64 x.f6.f0, .int .i64 x.f6.f1, .int .i64 x.f6.f2], rfl, rfl, ⟨[.string x.f1], [.string x.f2, .int .i64 x.f3, .int .i64 x.f4, .string x.f5, .int .i64 x.f6.f0, .int .i64 x.f6.f1, .int .i64 x.f6.f2], rfl, rfl, ⟨[.string x.f2], [.int .i64 x.f3, .int .i64 x.f4, .string x.f5, .int .i64 x.f6.f0, .int .i64 x.f6.f1, .int .i64 x.f6.f2], rfl, rfl, ⟨[.int .i64 x.f3], [.int .i64 x.f4, .string x.f5, .int .i64 x.f6.f0, .int .i64 x.f6.f1, .int .i64 x.f6.f2], rfl, rfl, ⟨[.int .i64 x.f4], [.string x.f5, .int .i64 x.f6.f0, .int .i64 x.f6.f1, .int .i64 x.f6.f2], rfl, rfl, ⟨[.string x.f5], [.int .i64 x.f6.f0, .int .i64 x.f6.f1, .int .i64 x.f6.f2], rfl, rfl, (k71_mkM w base ok x.f6 )⟩⟩⟩⟩⟩⟩
def rd_T73 (xs : List S73) (i : Int) : S73 := xs.getD i.toNat z73
theorem at_T73 {w : World} {A : Option Addr} {n : Nat} {xs : List S73} (h : Kd.C k73 w A n xs) (i : Int) (h0 : 0 ≤ i) (h1 : i < n) : ∃ ad , A = some ad ∧ w.cell? (ad.add (i.toNat * 9)) = some (.string (rd_T73 xs i).f0) ∧ w.cell? ⟨(ad.add (i.toNat * 9)).block, (ad.add (i.toNat * 9)).off + 1, none⟩ = some (.string (rd_T73 xs i).f1) ∧ w.cell? ⟨(ad.add (i.toNat * 9)).block, (ad.add (i.toNat * 9)).off + 2, none⟩ = some (.string (rd_T73 xs i).f2) ∧ w.cell? ⟨(ad.add (i.toNat * 9)).block, (ad.add (i.toNat * 9)).off + 3, none⟩ = some (.int .i64 (rd_T73 xs i).f3) ∧ w.cell? ⟨(ad.add (i.toNat * 9)).block, (ad.add (i.toNat * 9)).off + 4, none⟩ = some (.int .i64 (rd_T73 xs i).f4) ∧ w.cell? ⟨(ad.add (i.toNat * 9)).block, (ad.add (i.toNat * 9)).off + 5, none⟩ = some (.string (rd_T73 xs i).f5) ∧ w.cell? ⟨(ad.add (i.toNat * 9)).block, (ad.add (i.toNat * 9)).off + 6, none⟩ = some (.int .i64 (rd_T73 xs i).f6.f0) ∧ w.cell? ⟨(ad.add (i.toNat * 9)).block, (ad.add (i.toNat * 9)).off + 7, none⟩ = some (.int .i64 (rd_T73 xs i).f6.f1) ∧ w.cell? ⟨(ad.add (i.toNat * 9)).block, (ad.add (i.toNat * 9)).off + 8, none⟩ = some (.int .i64 (rd_T73 xs i).f6.f2) := by
  obtain ⟨ad, c, e, _, hK, hc0⟩ := Kd.C_get h z73 i h0 h1
  have hc : ∀ j u, c[j]? = some u → w.cell? (ad.add (i.toNat * 9 + j)) = some u := hc0
  obtain rfl := k73_open hK
  exact ⟨ad, e, hc 0 _ rfl, by rw [← add_field _ _ 1 (by omega)]; exact hc 1 _ rfl, by rw [← add_field _ _ 2 (by omega)]; exact hc 2 _ rfl, by rw [← add_field _ _ 3 (by omega)]; exact hc 3 _ rfl, by rw [← add_field _ _ 4 (by omega)]; exact hc 4 _ rfl, by rw [← add_field _ _ 5 (by omega)]; exact hc 5 _ rfl, by rw [← add_field _ _ 6 (by omega)]; exact hc 6 _ rfl, by rw [← add_field _ _ 7 (by omega)]; exact hc 7 _ rfl, by rw [← add_field _ _ 8 (by omega)]; exact hc 8 _ rfl⟩
structure S103 where
  f0 : Int
  f1 : Int
  f2 : ByteArray
  f3 : (List S103)
def F103 (d : Kd S103) : Kd S103 := Kd.iso (Kd.pair (Kd.int .i64) (Kd.pair (Kd.int .i64) (Kd.pair Kd.string (Kd.slice 103 d)))) (fun x : S103 => (x.f0, x.f1, x.f2, x.f3))
theorem sub103 : Kd.Sub F103 [103] := Kd.sub_iso _ (Kd.sub_pair (Kd.sub_const _ (by decide)) (Kd.sub_pair (Kd.sub_const _ (by decide)) (Kd.sub_pair (Kd.sub_const _ (by decide)) (Kd.sub_slice 103 (by decide) Kd.sub_id))))
theorem sz103 : ∀ n, (Kd.upto F103 4 [103] n).sz = 4 := Kd.upto_sz (fun _ => rfl)
def k103 : Kd S103 := Kd.fix F103 4 [103] sz103 (Kd.upto_E sub103)
structure S105 where
  f0 : ByteArray
  f1 : S103
def k105 : Kd S105 := Kd.iso (Kd.pair Kd.string k103) (fun x : S105 => (x.f0, x.f1))
structure S107 where
  f0 : Int
  f1 : ByteArray
  f2 : S103
def k107 : Kd S107 := Kd.iso (Kd.pair (Kd.int .i64) (Kd.pair Kd.string k103)) (fun x : S107 => (x.f0, x.f1, x.f2))
structure S109 where
  f0 : Int
  f1 : S103
def k109 : Kd S109 := Kd.iso (Kd.pair (Kd.int .i64) k103) (fun x : S109 => (x.f0, x.f1))
structure S154 where
  f0 : ByteArray
  f1 : ByteArray
  f2 : Int
  f3 : Int
def k154 : Kd S154 := Kd.iso (Kd.pair Kd.string (Kd.pair Kd.string (Kd.pair (Kd.int .i64) (Kd.int .i64)))) (fun x : S154 => (x.f0, x.f1, x.f2, x.f3))
structure S161 where
  f0 : ByteArray
  f1 : Int
  f2 : Int
def k161 : Kd S161 := Kd.iso (Kd.pair Kd.string (Kd.pair (Kd.int .i64) (Kd.int .i64))) (fun x : S161 => (x.f0, x.f1, x.f2))
structure S40 where
  f0 : Int
  f1 : Int
  f2 : Int
  f3 : Int
  f4 : Int
  f5 : Int
  f6 : Int
  f7 : (List S105)
  f8 : (List S107)
  f9 : (List S109)
  f10 : (List S103)
  f11 : (List S154)
  f12 : (List S161)
  f13 : Int
structure S32 where
  f0 : (List S83)
  f1 : (List S86)
  f2 : (List S73)
structure S50 where
  f0 : Int
  f1 : Bool
def z50 : S50 := ⟨(0 : Int), false⟩
def k50 : Kd S50 := Kd.iso (Kd.pair (Kd.int .i64) Kd.bool) (fun x : S50 => (x.f0, x.f1))
theorem k50_open {w : World} {x : S50} {cs : List Value} (h : k50.K w x cs) : cs = [.int .i64 x.f0, .bool x.f1] := by
  obtain ⟨_, _, rfl, rfl, rfl⟩ := h
  exact rfl
theorem k50_mkM (w : World) (base : Nat) (ok : Nat → Prop) (x : S50)  : k50.M w base ok x [.int .i64 x.f0, .bool x.f1] := ⟨[.int .i64 x.f0], [.bool x.f1], rfl, rfl, rfl⟩
def rd_T50 (xs : List S50) (i : Int) : S50 := xs.getD i.toNat z50
theorem at_T50 {w : World} {A : Option Addr} {n : Nat} {xs : List S50} (h : Kd.C k50 w A n xs) (i : Int) (h0 : 0 ≤ i) (h1 : i < n) : ∃ ad , A = some ad ∧ w.cell? (ad.add (i.toNat * 2)) = some (.int .i64 (rd_T50 xs i).f0) ∧ w.cell? ⟨(ad.add (i.toNat * 2)).block, (ad.add (i.toNat * 2)).off + 1, none⟩ = some (.bool (rd_T50 xs i).f1) := by
  obtain ⟨ad, c, e, _, hK, hc0⟩ := Kd.C_get h z50 i h0 h1
  have hc : ∀ j u, c[j]? = some u → w.cell? (ad.add (i.toNat * 2 + j)) = some u := hc0
  obtain rfl := k50_open hK
  exact ⟨ad, e, hc 0 _ rfl, by rw [← add_field _ _ 1 (by omega)]; exact hc 1 _ rfl⟩
structure S126 where
  f0 : Int
  f1 : Int
  f2 : Int
  f3 : Int
  f4 : Int
  f5 : (List ByteArray)
structure S114 where
  f0 : Int
  f1 : Int
def z114 : S114 := ⟨(0 : Int), (0 : Int)⟩
def k114 : Kd S114 := Kd.iso (Kd.pair (Kd.int .i64) (Kd.int .i64)) (fun x : S114 => (x.f0, x.f1))
theorem k114_open {w : World} {x : S114} {cs : List Value} (h : k114.K w x cs) : cs = [.int .i64 x.f0, .int .i64 x.f1] := by
  obtain ⟨_, _, rfl, rfl, rfl⟩ := h
  exact rfl
theorem k114_openM {w : World} {base : Nat} {ok : Nat → Prop} {x : S114} {cs : List Value} (h : k114.M w base ok x cs) : cs = [.int .i64 x.f0, .int .i64 x.f1] := by
  obtain ⟨_, _, rfl, rfl, rfl⟩ := h
  exact rfl
theorem k114_mkM (w : World) (base : Nat) (ok : Nat → Prop) (x : S114)  : k114.M w base ok x [.int .i64 x.f0, .int .i64 x.f1] := ⟨[.int .i64 x.f0], [.int .i64 x.f1], rfl, rfl, rfl⟩
def rd_T114 (xs : List S114) (i : Int) : S114 := xs.getD i.toNat z114
theorem at_T114 {w : World} {A : Option Addr} {n : Nat} {xs : List S114} (h : Kd.C k114 w A n xs) (i : Int) (h0 : 0 ≤ i) (h1 : i < n) : ∃ ad , A = some ad ∧ w.cell? (ad.add (i.toNat * 2)) = some (.int .i64 (rd_T114 xs i).f0) ∧ w.cell? ⟨(ad.add (i.toNat * 2)).block, (ad.add (i.toNat * 2)).off + 1, none⟩ = some (.int .i64 (rd_T114 xs i).f1) := by
  obtain ⟨ad, c, e, _, hK, hc0⟩ := Kd.C_get h z114 i h0 h1
  have hc : ∀ j u, c[j]? = some u → w.cell? (ad.add (i.toNat * 2 + j)) = some u := hc0
  obtain rfl := k114_open hK
  exact ⟨ad, e, hc 0 _ rfl, by rw [← add_field _ _ 1 (by omega)]; exact hc 1 _ rfl⟩
structure S148 where
  f0 : Int
  f1 : Int
  f2 : Int
def z148 : S148 := ⟨(0 : Int), (0 : Int), (0 : Int)⟩
def k148 : Kd S148 := Kd.iso (Kd.pair (Kd.int .i64) (Kd.pair (Kd.int .i64) (Kd.int .i64))) (fun x : S148 => (x.f0, x.f1, x.f2))
theorem k148_open {w : World} {x : S148} {cs : List Value} (h : k148.K w x cs) : cs = [.int .i64 x.f0, .int .i64 x.f1, .int .i64 x.f2] := by
  obtain ⟨_, _, rfl, rfl, ⟨_, _, rfl, rfl, rfl⟩⟩ := h
  exact rfl
theorem k148_mkM (w : World) (base : Nat) (ok : Nat → Prop) (x : S148)  : k148.M w base ok x [.int .i64 x.f0, .int .i64 x.f1, .int .i64 x.f2] := ⟨[.int .i64 x.f0], [.int .i64 x.f1, .int .i64 x.f2], rfl, rfl, ⟨[.int .i64 x.f1], [.int .i64 x.f2], rfl, rfl, rfl⟩⟩
def rd_T148 (xs : List S148) (i : Int) : S148 := xs.getD i.toNat z148
theorem at_T148 {w : World} {A : Option Addr} {n : Nat} {xs : List S148} (h : Kd.C k148 w A n xs) (i : Int) (h0 : 0 ≤ i) (h1 : i < n) : ∃ ad , A = some ad ∧ w.cell? (ad.add (i.toNat * 3)) = some (.int .i64 (rd_T148 xs i).f0) ∧ w.cell? ⟨(ad.add (i.toNat * 3)).block, (ad.add (i.toNat * 3)).off + 1, none⟩ = some (.int .i64 (rd_T148 xs i).f1) ∧ w.cell? ⟨(ad.add (i.toNat * 3)).block, (ad.add (i.toNat * 3)).off + 2, none⟩ = some (.int .i64 (rd_T148 xs i).f2) := by
  obtain ⟨ad, c, e, _, hK, hc0⟩ := Kd.C_get h z148 i h0 h1
  have hc : ∀ j u, c[j]? = some u → w.cell? (ad.add (i.toNat * 3 + j)) = some u := hc0
  obtain rfl := k148_open hK
  exact ⟨ad, e, hc 0 _ rfl, by rw [← add_field _ _ 1 (by omega)]; exact hc 1 _ rfl, by rw [← add_field _ _ 2 (by omega)]; exact hc 2 _ rfl⟩
theorem bl_gtr : ∀ (x y : List UInt8), (!(Op.bytesLess x y || x == y)) = Op.bytesLess y x
  | [], [] => by simp [Op.bytesLess]
  | _ :: _, [] => by simp [Op.bytesLess]
  | [], _ :: _ => by simp [Op.bytesLess]
  | a :: x, b :: y => by
    have ih := bl_gtr x y
    simp only [Op.bytesLess, List.cons_beq_cons]
    rw [← ih]
    by_cases h1 : a < b
    · have h2 : ¬ b < a := fun h => by rw [UInt8.lt_iff_toNat_lt] at h h1; omega
      have h3 : ¬ b = a := fun h => by subst h; exact absurd h1 (by rw [UInt8.lt_iff_toNat_lt]; omega)
      simp [h1, h2, h3]
    · by_cases h4 : a = b
      · subst h4
        simp [h1]
      · have h2 : b < a := by
          rw [UInt8.lt_iff_toNat_lt] at h1 ⊢
          have h5 : a.toNat ≠ b.toNat := fun h => h4 (UInt8.toNat_inj.mp h)
          omega
        simp [h1, h2, h4]
theorem binOp_string_gtr (t : TypeId) (a b : ByteArray) : binOp .gtr t (.string a) (.string b) = pure (.bool (Op.bytesLess b.toList a.toList)) := by
  rw [← bl_gtr]
  simp [binOp, Op.stringOp]
theorem bk {w0 w : World} {g : Nat} {o : Obj} (_ : w0.heap[g]? = some o) (h : w.heap[g]? = some o := by with_reducible repeat (first | exact Aside0.out (by assumption) | refine blk_drewN ?_ _ | refine blk_drew ?_ | refine blk_alloc ?_ _ | refine blk_far ?_ (Aside0.out (by assumption)) _)) : w.heap[g]? = some o := h
theorem hbk {P : Prop} (h : P := by repeat (first | (with_reducible first | exact HB.out | apply below_alloc | apply pw_below_drewN | apply below_drew1 | refine below_set ?_ (Aside0.out (by assumption))) | exact HB.out)) : P := h
theorem hbb {P : Prop} (h : P := by with_reducible repeat (first | exact Aside0.out (by assumption) | refine blk_drewN ?_ _ | refine blk_drew ?_ | refine blk_alloc ?_ _ | refine blk_far ?_ (Aside0.out (by assumption)) _)) : P := h
theorem hro {P : Prop} (h : P := by with_reducible repeat (first | exact Aside0.out (by assumption) | apply Kd.R_alloc | apply Kd.R_drewN | apply Kd.R_drew)) : P := h
theorem blk_belowB {w0 w w1 : World} {g : Nat} {o : Obj} (_ : w0.heap[g]? = some o) (hb : Below w.heap.size w w1) (h : w.heap[g]? = some o := by with_reducible repeat (first | exact Aside0.out (by assumption) | refine blk_drewN ?_ _ | refine blk_drew ?_ | refine blk_alloc ?_ _ | refine blk_far ?_ (Aside0.out (by assumption)) _)) : w1.heap[g]? = some o := blk_below h hb
theorem blk_ltB {w0 w : World} {g : Nat} {o : Obj} (_ : w0.heap[g]? = some o) (h : w.heap[g]? = some o := by with_reducible repeat (first | exact Aside0.out (by assumption) | refine blk_drewN ?_ _ | refine blk_drew ?_ | refine blk_alloc ?_ _ | refine blk_far ?_ (Aside0.out (by assumption)) _)) : g < w.heap.size := blk_lt h
theorem R_belowB {α : Type} {d : Kd α} {e : TypeId} {w0 w w1 : World} {base : Nat} {ok : Nat → Prop} {v : Value} {xs : List α} (_ : d.R e w0 base ok v xs) (hb : Below w.heap.size w w1) (h : d.R e w base ok v xs := by with_reducible repeat (first | exact Aside0.out (by assumption) | apply Kd.R_alloc | apply Kd.R_drewN | apply Kd.R_drew)) : d.R e w1 base ok v xs := Kd.R_below h hb
theorem held_of2 {S : World → Prop} {w w' : World} {g g' : Nat} {o o' : Obj} (_ : w.heap[g]? = some o) (_ : w'.heap[g']? = some o') (h : ∀ X : World, X.heap[g]? = some o → X.heap[g']? = some o' → S X) : ∀ X : World, X.heap[g]? = some o → X.heap[g']? = some o' → S X := h
theorem blk_fs2 {w : World} {g : Nat} {t : TypeId} {cs : Array Value} (h : w.heap[g]? = some (.cells cs t (0, 0))) : w.frozen? ⟨g, 0, none⟩ = false ∧ w.frozen? ⟨g, 1, none⟩ = false := ⟨blk_frozen h 0, blk_frozen h 1⟩
theorem blk_cs2 {w : World} {g : Nat} {t : TypeId} {v0 v1 : Value} (h : w.heap[g]? = some (.cells #[v0, v1] t (0, 0))) : w.cell? ⟨g, 0, none⟩ = some v0 ∧ w.cell? ⟨g, 1, none⟩ = some v1 := ⟨(blk_cell h 0).trans rfl, (blk_cell h 1).trans rfl⟩
theorem blk_fs3 {w : World} {g : Nat} {t : TypeId} {cs : Array Value} (h : w.heap[g]? = some (.cells cs t (0, 0))) : w.frozen? ⟨g, 0, none⟩ = false ∧ w.frozen? ⟨g, 1, none⟩ = false ∧ w.frozen? ⟨g, 2, none⟩ = false := ⟨blk_frozen h 0, blk_frozen h 1, blk_frozen h 2⟩
theorem blk_cs3 {w : World} {g : Nat} {t : TypeId} {v0 v1 v2 : Value} (h : w.heap[g]? = some (.cells #[v0, v1, v2] t (0, 0))) : w.cell? ⟨g, 0, none⟩ = some v0 ∧ w.cell? ⟨g, 1, none⟩ = some v1 ∧ w.cell? ⟨g, 2, none⟩ = some v2 := ⟨(blk_cell h 0).trans rfl, (blk_cell h 1).trans rfl, (blk_cell h 2).trans rfl⟩
theorem blk_fs6 {w : World} {g : Nat} {t : TypeId} {cs : Array Value} (h : w.heap[g]? = some (.cells cs t (0, 0))) : w.frozen? ⟨g, 0, none⟩ = false ∧ w.frozen? ⟨g, 1, none⟩ = false ∧ w.frozen? ⟨g, 2, none⟩ = false ∧ w.frozen? ⟨g, 3, none⟩ = false ∧ w.frozen? ⟨g, 4, none⟩ = false ∧ w.frozen? ⟨g, 5, none⟩ = false := ⟨blk_frozen h 0, blk_frozen h 1, blk_frozen h 2, blk_frozen h 3, blk_frozen h 4, blk_frozen h 5⟩
theorem blk_cs6 {w : World} {g : Nat} {t : TypeId} {v0 v1 v2 v3 v4 v5 : Value} (h : w.heap[g]? = some (.cells #[v0, v1, v2, v3, v4, v5] t (0, 0))) : w.cell? ⟨g, 0, none⟩ = some v0 ∧ w.cell? ⟨g, 1, none⟩ = some v1 ∧ w.cell? ⟨g, 2, none⟩ = some v2 ∧ w.cell? ⟨g, 3, none⟩ = some v3 ∧ w.cell? ⟨g, 4, none⟩ = some v4 ∧ w.cell? ⟨g, 5, none⟩ = some v5 := ⟨(blk_cell h 0).trans rfl, (blk_cell h 1).trans rfl, (blk_cell h 2).trans rfl, (blk_cell h 3).trans rfl, (blk_cell h 4).trans rfl, (blk_cell h 5).trans rfl⟩
theorem blk_fs9 {w : World} {g : Nat} {t : TypeId} {cs : Array Value} (h : w.heap[g]? = some (.cells cs t (0, 0))) : w.frozen? ⟨g, 0, none⟩ = false ∧ w.frozen? ⟨g, 1, none⟩ = false ∧ w.frozen? ⟨g, 2, none⟩ = false ∧ w.frozen? ⟨g, 3, none⟩ = false ∧ w.frozen? ⟨g, 4, none⟩ = false ∧ w.frozen? ⟨g, 5, none⟩ = false ∧ w.frozen? ⟨g, 6, none⟩ = false ∧ w.frozen? ⟨g, 7, none⟩ = false ∧ w.frozen? ⟨g, 8, none⟩ = false := ⟨blk_frozen h 0, blk_frozen h 1, blk_frozen h 2, blk_frozen h 3, blk_frozen h 4, blk_frozen h 5, blk_frozen h 6, blk_frozen h 7, blk_frozen h 8⟩
theorem blk_cs9 {w : World} {g : Nat} {t : TypeId} {v0 v1 v2 v3 v4 v5 v6 v7 v8 : Value} (h : w.heap[g]? = some (.cells #[v0, v1, v2, v3, v4, v5, v6, v7, v8] t (0, 0))) : w.cell? ⟨g, 0, none⟩ = some v0 ∧ w.cell? ⟨g, 1, none⟩ = some v1 ∧ w.cell? ⟨g, 2, none⟩ = some v2 ∧ w.cell? ⟨g, 3, none⟩ = some v3 ∧ w.cell? ⟨g, 4, none⟩ = some v4 ∧ w.cell? ⟨g, 5, none⟩ = some v5 ∧ w.cell? ⟨g, 6, none⟩ = some v6 ∧ w.cell? ⟨g, 7, none⟩ = some v7 ∧ w.cell? ⟨g, 8, none⟩ = some v8 := ⟨(blk_cell h 0).trans rfl, (blk_cell h 1).trans rfl, (blk_cell h 2).trans rfl, (blk_cell h 3).trans rfl, (blk_cell h 4).trans rfl, (blk_cell h 5).trans rfl, (blk_cell h 6).trans rfl, (blk_cell h 7).trans rfl, (blk_cell h 8).trans rfl⟩
theorem blk_fs14 {w : World} {g : Nat} {t : TypeId} {cs : Array Value} (h : w.heap[g]? = some (.cells cs t (0, 0))) : w.frozen? ⟨g, 0, none⟩ = false ∧ w.frozen? ⟨g, 1, none⟩ = false ∧ w.frozen? ⟨g, 2, none⟩ = false ∧ w.frozen? ⟨g, 3, none⟩ = false ∧ w.frozen? ⟨g, 4, none⟩ = false ∧ w.frozen? ⟨g, 5, none⟩ = false ∧ w.frozen? ⟨g, 6, none⟩ = false ∧ w.frozen? ⟨g, 7, none⟩ = false ∧ w.frozen? ⟨g, 8, none⟩ = false ∧ w.frozen? ⟨g, 9, none⟩ = false ∧ w.frozen? ⟨g, 10, none⟩ = false ∧ w.frozen? ⟨g, 11, none⟩ = false ∧ w.frozen? ⟨g, 12, none⟩ = false ∧ w.frozen? ⟨g, 13, none⟩ = false := ⟨blk_frozen h 0, blk_frozen h 1, blk_frozen h 2, blk_frozen h 3, blk_frozen h 4, blk_frozen h 5, blk_frozen h 6, blk_frozen h 7, blk_frozen h 8, blk_frozen h 9, blk_frozen h 10, blk_frozen h 11, blk_frozen h 12, blk_frozen h 13⟩
theorem blk_cs14 {w : World} {g : Nat} {t : TypeId} {v0 v1 v2 v3 v4 v5 v6 v7 v8 v9 v10 v11 v12 v13 : Value} (h : w.heap[g]? = some (.cells #[v0, v1, v2, v3, v4, v5, v6, v7, v8, v9, v10, v11, v12, v13] t (0, 0))) : w.cell? ⟨g, 0, none⟩ = some v0 ∧ w.cell? ⟨g, 1, none⟩ = some v1 ∧ w.cell? ⟨g, 2, none⟩ = some v2 ∧ w.cell? ⟨g, 3, none⟩ = some v3 ∧ w.cell? ⟨g, 4, none⟩ = some v4 ∧ w.cell? ⟨g, 5, none⟩ = some v5 ∧ w.cell? ⟨g, 6, none⟩ = some v6 ∧ w.cell? ⟨g, 7, none⟩ = some v7 ∧ w.cell? ⟨g, 8, none⟩ = some v8 ∧ w.cell? ⟨g, 9, none⟩ = some v9 ∧ w.cell? ⟨g, 10, none⟩ = some v10 ∧ w.cell? ⟨g, 11, none⟩ = some v11 ∧ w.cell? ⟨g, 12, none⟩ = some v12 ∧ w.cell? ⟨g, 13, none⟩ = some v13 := ⟨(blk_cell h 0).trans rfl, (blk_cell h 1).trans rfl, (blk_cell h 2).trans rfl, (blk_cell h 3).trans rfl, (blk_cell h 4).trans rfl, (blk_cell h 5).trans rfl, (blk_cell h 6).trans rfl, (blk_cell h 7).trans rfl, (blk_cell h 8).trans rfl, (blk_cell h 9).trans rfl, (blk_cell h 10).trans rfl, (blk_cell h 11).trans rfl, (blk_cell h 12).trans rfl, (blk_cell h 13).trans rfl⟩
theorem hrf {P : Prop} (h : P := by first | rfl | (simp [errW_none, errW_some] <;> rfl) | (simp [*, errW_none, errW_some] <;> rfl)) : P := h
theorem hgl {P : Prop} (h : P := by (try simp only [List.map_toArray, List.map_cons, List.map_nil]); first | done | rfl | (simp only [List.length_drop, List.length_take]; rfl)) : P := h
end Go.Proofs.YtilnppdognejbaaGreatDoor.P
namespace Go.Proofs.YtilnppdognejbaaGreatDoor.P
open Go.RowKit Go.Proofs.YtilnppdognejbaaGreatDoorW.PrintWords Go.Proofs.YtilnppdognejbaaGreatDoorW.PrintLast Go.Proofs.YtilnppdognejbaaGreatDoorW.PrintMore
attribute [local go_sem] max2_int min2_int max_two min_two max_three min_three max_four min_four   -- for this text's walks alone
set_option linter.unusedVariables false
set_option linter.unusedSimpArgs false
theorem eqNilIn (ad : Addr) (n c : Nat) (w : World) (d : Nat) : Sem.run Tryz.prog (Op.equalIn (d + 1) 123 (.slice (some ad) n c) (.slice none 0 0)) w = .ok false w := by
 simp [Op.equalIn, run_underlying Tryz.underlying123]
theorem eqNil0 (ad : Addr) (n c : Nat) (w : World) : Sem.run Tryz.prog (Op.equal 123 (.slice (some ad) n c) (.slice none 0 0)) w = .ok false w := eqNilIn ad n c w 9999
theorem eqNil1 (ad : Addr) (n c : Nat) (w : World) : Sem.run Tryz.prog (binOp .eql 123 (.slice (some ad) n c) (.slice none 0 0)) w = .ok (.bool false) w := by
 simp only [binOp]
 simp [eqNil0 ad n c w]
attribute [local go_sem] eqNil1
set_option maxRecDepth 100000 in
theorem clone86 (ad : Addr) (c : Nat) (l : List ByteArray) (hl : l.length ≤ 1000) (w : World) (hr : Kd.C Kd.string w (some ad) l.length l) :
  Calls Tryz.prog 86 #[.slice (some ad) l.length c] w fun e w' => ∃ v : Value, e = .returned v ∧ Kd.R Kd.string 9 w' w.heap.size (fun _ => True) v l ∧ Below w.heap.size w w' := by
 have HB := Aside0.mk (Below.refl w.heap.size w)
 have HR := Aside0.mk hr
 have HL := Aside0.mk hl
 clear hr hl
 go_enter Tryz.func86, Tryz.ntmps86
 go_wp2_with (first | ((with_reducible refine gate_dst (N := 5) rfl ?_); refine Kd.R_lit Kd.string (w0 := w) w.heap.size 9 ?hg (N := 5) ?hd (xs := ([] : List ByteArray)) (inner := []) (ok := fun _ => True) (okp := fun _ => True) ?hrr ?hp (fun _ hk => hk) trivial HB.out (Nat.le_refl _) (by simp) ?_; (case hd => rfl); (case hg => rfl); (case hrr => first | (go_simp; done) | (go_simp; rfl)); (case hp => exact Reps.none _ _); intro v1 w1 ho2 hb hg_ hnew_; have HO := Aside0.mk ho2; have HB1 := Aside0.mk hb; clear ho2 hb hg_ hnew_) | ((with_reducible refine gate_builtin (b := .append) (xs := #[.tmp 5, .tmp 6]) rfl ?_); at_builtin; refine Kd.R_append_rows Kd.string (w0 := w) w.heap.size rfl (.tmp 5) (.tmp 6) 123 9 (.string ⟨#[]⟩) 16 rfl Tryz.underlying123 (show (Tryz.prog.info? 9).map (fun i => (i.zero, i.size, i.bytes)) = some (some (.string ⟨#[]⟩), 1, 16) by kernel_rfl) rfl (by decide) (by decide) v1 ([] : List ByteArray) l (some ad) l.length c (fun _ => True) (fun _ => False) rfl rfl HO.out (Kd.C_below HR.out HB1.out) ?aK (fun _ hk => hk.elim) (fun _ _ => trivial) HB1.out HB1.out.size (by have := HL.out; simp; omega) ?_; (case aK => exact fun x cs h => h); intro v2 w2 ho hb hgr hat; have HO2 := Aside0.mk ho; have HB2 := Aside0.mk hb; clear ho hb hgr hat))
 go_ret
 exact ⟨v2, rfl, HO2.out, HB2.out⟩
def dutyN : List ByteArray := [⟨#[108, 101, 103, 115]⟩, ⟨#[104, 101, 97, 100, 115]⟩, ⟨#[116, 121, 112, 101, 115]⟩, ⟨#[98, 108, 111, 99, 107]⟩, ⟨#[115, 112, 97, 110]⟩, ⟨#[110, 105, 103, 104, 116]⟩, ⟨#[108, 111, 110, 103, 101, 115, 116]⟩, ⟨#[115, 104, 111, 114, 116, 101, 115, 116]⟩, ⟨#[115, 104, 105, 102, 116]⟩, ⟨#[115, 116, 97, 114, 116]⟩, ⟨#[101, 110, 100]⟩]
/-- The table of the duties' names, in its block. -/
def GL (w : World) : Prop := Kd.C Kd.string w (some ⟨1, 0, none⟩) 11 dutyN
theorem gl_below {w w' : World} (h : GL w) (hb : Below w.heap.size w w') : GL w' := Kd.C_below h hb
set_option maxRecDepth 100000 in
theorem attrs66 (w : World) (hg : GL w) :
  Calls Tryz.prog 66 #[.int .i64 1] w fun e w' => ∃ v : Value, e = .returned v ∧ Kd.R Kd.string 9 w' w.heap.size (fun _ => True) v dutyN ∧ Below w.heap.size w w' := by
 have hu1 := Tryz.underlying140
 have HB := Aside0.mk (Below.refl w.heap.size w)
 have HG := Aside0.mk hg
 clear hg
 go_enter Tryz.func66, Tryz.ntmps66
 go_wp2_with (first | (go_at_call 86; (refine (clone86 ⟨1, 0, none⟩ 11 dutyN (by decide) _ HG.out).mono ?_); rintro e w1 ⟨v, rfl, ho, hb⟩; have HO := Aside0.mk ho; have HB1 := Aside0.mk hb; clear ho hb))
 go_ret
 exact ⟨v, rfl, HO.out, HB1.out⟩
def types_Attributes.f (a0 : Int) : Option (List ByteArray) := if a0 = 1 then some dutyN else none
theorem types_Attributes.calls (a0 : Int) (r : List ByteArray) (w : World) (hGL0 : GL w) (h : types_Attributes.f a0 = some r) :
  Calls Tryz.prog 66 #[.int .i64 a0] w fun e w' => ∃ v0_ : Value, e = .returned (v0_) ∧ Kd.R Kd.string 9 w' w.heap.size (fun _ => True) v0_ r ∧ Below w.heap.size w w' := by
 unfold types_Attributes.f at h
 by_cases q : a0 = 1
 ·rw [if_pos q] at h
  subst q
  obtain rfl := Option.some.inj h
  exact attrs66 w hGL0
 ·rw [if_neg q] at h
  cases h
end Go.Proofs.YtilnppdognejbaaGreatDoor.P
namespace Go.Proofs.YtilnppdognejbaaGreatDoor.Mo
open Go.RowKit Go.Proofs.YtilnppdognejbaaGreatDoorW.PrintWords Go.Proofs.YtilnppdognejbaaGreatDoorW.PrintLast Go.Proofs.YtilnppdognejbaaGreatDoorW.PrintMore
open Go.ChangeShapes Go.WideShapes Go.Deep
open Go.Proofs.YtilnppdognejbaaGreatDoor.P
theorem cells3 : Tryz.prog.cellsOf 3 = 1 := by kernel_rfl
theorem cells9 : Tryz.prog.cellsOf 9 = 1 := by kernel_rfl
theorem cells62 : Tryz.prog.cellsOf 62 = 2 := by kernel_rfl
theorem cells140 : Tryz.prog.cellsOf 140 = 11 := by kernel_rfl
theorem list_of {α : Type} {Q : Nat → α → Prop} {n : Nat} (h : ∀ i, i < n → ∃ x, Q i x) : ∃ l : List α, l.length = n ∧ ∀ (j : Nat) (p : α), l[j]? = some p → Q j p := by
  induction n with
  | zero => exact ⟨[], rfl, fun j p hj => by simp at hj⟩
  | succ len ih =>
    obtain ⟨l, h1, h2⟩ := ih (fun i hi => h i (by omega))
    obtain ⟨a', h3⟩ := h len (by omega)
    refine ⟨l ++ [a'], by simp [h1], fun j p hj => ?_⟩
    rcases Nat.lt_or_ge j l.length with hlt | hge
    · rw [List.getElem?_append_left hlt] at hj
      exact h2 j p hj
    · have hj1 := (List.getElem?_eq_some_iff.1 hj).1
      rw [List.length_append, List.length_singleton] at hj1
      have e1 : j = l.length := by omega
      subst e1
      have e2 : a' = p := by simpa using hj
      subst e2
      rw [h1]
      exact h3
section
variable {H : Type} {enc : TypeId × Value → H} {W : World}
/-- A slice of whatever elements that read as a kind. -/
theorem slice_open {α : Type} (k : Kd α) (Wf : α → Prop) {t e : TypeId} (ht : Tryz.prog.underlying t = some (.slice e)) (hsz : k.sz = Tryz.prog.cellsOf e)
    (hop : ∀ n cs x, DataW.trod enc Tryz.prog W 0 (fun _ => true) true n e cs = some x → ∃ a : α, k.K W a cs ∧ Wf a)
    {n : Nat} {cs : List Value} {x : DataW H × List MemPlace} (h : DataW.trod enc Tryz.prog W 0 (fun _ => true) true n t cs = some x) :
    ∃ (A : Option Addr) (c : Nat) (l : List α), cs = [.slice A l.length c] ∧ l.length ≤ c ∧ k.C W A l.length l ∧ ∀ a ∈ l, Wf a := by
  rcases open_slice ht h with ⟨rfl, _⟩ | ⟨a, len, cap, m, n', D, Pl, rfl, hb, hl, hm, hmm, _, hx⟩
  · exact ⟨none, 0, [], rfl, Nat.le_refl _, ⟨rfl, by simp, fun h => by simp at h⟩, fun a ha => by cases ha⟩
  · simp only [if_true] at hmm
    subst hmm
    have each : ∀ i, i < len → ∃ a' : α, Wf a' ∧ ∃ cs', W.cells? 0 (a.add (i * Tryz.prog.cellsOf e)) (Tryz.prog.cellsOf e) = some cs' ∧ k.K W a' cs' := by
      intro i hi
      obtain ⟨cs', h1, h2⟩ := hx i (by omega)
      obtain ⟨a', h3, h4⟩ := hop _ _ _ h2
      exact ⟨a', h4, cs', h1, h3⟩
    have hlist := list_of each
    obtain ⟨l, hl1, hl2⟩ := hlist
    subst hl1
    refine ⟨some a, m, l, rfl, hl, ⟨rfl, ?_, fun _ => ⟨a, rfl, fun j p hj => ?_⟩⟩, fun p hp => ?_⟩
    · unfold maxLen at hm
      omega
    · obtain ⟨_, cs', h1, h2⟩ := hl2 j p hj
      obtain ⟨_, hlen, hcell⟩ := World.cells?_some h1
      refine ⟨cs', by rw [hlen, hsz], h2, fun i u hu => ?_⟩
      have hi : i < Tryz.prog.cellsOf e := by
        have := (List.getElem?_eq_some_iff.1 hu).1
        omega
      have := hcell i hi
      rw [Deep.add_add] at this
      rw [hsz, this, hu]
    · obtain ⟨j, hj, hp'⟩ := List.getElem_of_mem hp
      exact (hl2 j p (by rw [List.getElem?_eq_getElem hj, hp'])).1
set_option maxRecDepth 100000 in
theorem attr_open (n : Nat) (cs : List Value) (x : DataW H × List MemPlace) (h : DataW.trod enc Tryz.prog W 0 (fun _ => true) true n 62 cs = some x) : ∃ a : S62, k62.K W a cs ∧ True := by
  obtain ⟨xs, k, rfl, rfl, hlen, hxl, hf⟩ := DataW.trod_struct Tryz.underlying62 h
  rw [cells62] at hlen
  match cs, hlen, xs, hxl with
  | [v0, v1], _, [y0, y1], _ =>
    have g0 := hf 0 _ rfl
    have g1 := hf 1 _ rfl
    simp [cells9, cells3] at g0 g1
    obtain ⟨a, e0, _, _⟩ := DataW.trod_string Tryz.underlying9 g0
    obtain ⟨b, e1, _, w1⟩ := DataW.trod_int Tryz.underlying3 g1
    simp at e0 e1
    subst e0 e1
    exact ⟨⟨a, b⟩, k62_mk W ⟨a, b⟩, trivial⟩
end
/-- An array of strings that reads as these holds them, cell for cell. -/
theorem cells_of_strs {H : Type} {enc : TypeId × Value → H} {P : Program} {w : World} {base : Nat} {sp : Nat → Bool} {held : Bool} {fuel : Nat} {t e : TypeId} {n : Nat} {cs : List Value} {ss : List ByteArray} {p : List MemPlace}
    (ht : P.underlying t = some (.array n e)) (he : P.underlying e = some .string) (hce : P.cellsOf e = 1) (hct : P.cellsOf t = n)
    (h : DataW.trod enc P w base sp held fuel t cs = some (.agg (ss.map fun s => .lit (.string s.data.toList)), p)) : cs = ss.map fun s => Value.string s := by
  cases fuel with
  | zero => simp [DataW.trod] at h
  | succ fuel =>
    simp only [DataW.trod, ht, hce, hct, Nat.mul_one] at h
    split at h
    · rename_i hl
      obtain ⟨xs, hm, hx⟩ := Option.map_eq_some_iff.1 h
      have hxs : xs.map (·.1) = ss.map fun s => (DataW.lit (.string s.data.toList) : DataW H) := by
        have := congrArg Prod.fst hx
        simpa using this
      have hxl : xs.length = n := by simpa using Lib.mapM_length hm
      have hzl : ss.length = n := by
        have := congrArg List.length hxs
        simp at this
        omega
      apply List.ext_getElem?
      intro i
      by_cases hi : i < n
      · obtain ⟨b, hb, hf⟩ := Lib.mapM_at hm i i (by simp [hi])
        obtain ⟨s, hc, rfl, _⟩ := DataW.trod_string he hf
        have h1 : cs[i]? = some (.string s) := by
          have := congrArg (·[0]?) hc
          simpa [List.getElem?_take, List.getElem?_drop] using this
        have h2 : (xs.map (·.1))[i]? = some (DataW.lit (.string s.data.toList) : DataW H) := by simp [hb]
        rw [hxs] at h2
        simp only [List.getElem?_map, Option.map_eq_some_iff, DataW.lit.injEq, Lit.string.injEq] at h2
        obtain ⟨s', hs', e⟩ := h2
        have e2 : s' = s := by
          cases s'; cases s
          simp only [ByteArray.mk.injEq]
          exact Array.toList_inj.mp e
        subst e2
        simp [h1, hs']
      · rw [List.getElem?_eq_none (by omega), List.getElem?_eq_none (by simp; omega)]
    · cases h
theorem gNames : Tryz.prog.globalNamed "pairing/types.dutyNames" = some 1 := by kernel_rfl
theorem gNamesType : (Tryz.prog.globals[1]?).map (·.type) = some 140 := by kernel_rfl
/-- The table, where it stands first. -/
theorem names_of_head {W : World} {rest : List (String × DataW Unit)} (h : laidMet Tryz.prog (("pairing/types.dutyNames", Rows.laid_pairing_types_dutyNames) :: rest) W) : GL W := by
  obtain ⟨ps, ⟨g', t', cs, fuel, p, q, hg', ht', hvar, hd, _, _⟩, _⟩ := h
  obtain rfl := Option.some.inj (gNames.symm.trans hg')
  obtain rfl := Option.some.inj (gNamesType.symm.trans ht')
  have hc := cells_of_strs (ss := dutyN) Tryz.underlying140 Tryz.underlying9 cells9 cells140 hd
  refine ⟨rfl, by decide, fun _ => ⟨⟨1, 0, none⟩, rfl, fun j s hj => ⟨[.string s], rfl, rfl, fun i u hu => ?_⟩⟩⟩
  have hi : i = 0 := by
    have := (List.getElem?_eq_some_iff.1 hu).1
    simp at this
    omega
  subst hi
  have := World.var?_cell gNames hvar j
  rw [← Array.getElem?_toList, hc] at this
  have hs : u = .string s := by simpa using hu.symm
  subst hs
  have e : (⟨1, 0, none⟩ : Addr).add (j * Kd.string.sz + 0) = ⟨1, j, none⟩ := by
    simp [Addr.add, show Kd.string.sz = 1 from rfl]
    exact fun h => h.symm
  rw [e, this]
  simp [hj]
theorem names_of_row {W : World} (h : laidMetH Tryz.prog Rows.measureLookupRow.laid W) : GL W := names_of_head (laidMet.tail h)
end Go.Proofs.YtilnppdognejbaaGreatDoor.Mo
namespace Go.Proofs.YtilnppdognejbaaGreatDoor.P
open Go.RowKit Go.Proofs.YtilnppdognejbaaGreatDoorW.PrintWords Go.Proofs.YtilnppdognejbaaGreatDoorW.PrintLast Go.Proofs.YtilnppdognejbaaGreatDoorW.PrintMore
attribute [local go_sem] max2_int min2_int max_two min_two max_three min_three max_four min_four   -- for this text's walks alone
set_option linter.unusedVariables false
set_option linter.unusedSimpArgs false
theorem attr20 (nm : ByteArray) (x0 : ByteArray) (x1 : Int) (g : Nat) (w : World) (hz : w.cell? ⟨g, 0, none⟩ = some (.string nm)) :
  Calls Tryz.prog 20 #[.agg #[.string x0, .int .i64 x1], .pointer (some ⟨g, 0, none⟩)] w fun e w' => e = .returned (.bool (x0.toList == nm.toList)) ∧ Below w.heap.size w w' := by
 have hu := Tryz.underlying62
 have HB := Aside0.mk (Below.refl w.heap.size w)
 have hz1 : (w.alloc (.cells #[.string x0, .int .i64 x1] 62)).cell? ⟨g, 0, none⟩ = some (.string nm) := (HB.out.trans (below_alloc HB.out _)).cell (World.block_lt_of_cell? w _ hz) |>.trans hz
 by_cases h : x0.toList = nm.toList
 ·have hb0 : (x0.toList == nm.toList) = true := beq_iff_eq.mpr h
  have hb1 : (x0.toList != nm.toList) = false := bne_eq_false_iff_eq.mpr h
  have HH := Aside0.mk hb0
  clear h
  go_enter Tryz.func20, Tryz.ntmps20
  go_wp2_with fail
  go_ret
  exact ⟨by rw [HH.out]; rfl, by repeat (first | exact HB.out | apply below_alloc | apply pw_below_drewN | apply below_drew1)⟩
 ·have hb0 : (x0.toList == nm.toList) = false := beq_eq_false_iff_ne.mpr h
  have hb1 : (x0.toList != nm.toList) = true := bne_iff_ne.mpr h
  have HH := Aside0.mk hb0
  clear h
  go_enter Tryz.func20, Tryz.ntmps20
  go_wp2_with fail
  go_ret
  exact ⟨by rw [HH.out]; rfl, by repeat (first | exact HB.out | apply below_alloc | apply pw_below_drewN | apply below_drew1)⟩
def isAt (nm : ByteArray) (x : S62) : Bool := x.f0.toList == nm.toList
def attrIx (l : List S62) (nm : ByteArray) : Int := if l.findIdx (isAt nm) < l.length then (l.findIdx (isAt nm) : Int) else -1
theorem rdA (l : List S62) (k : Nat) (h : k < l.length) : rd_T62 l (k : Int) = l[k] := by
 unfold rd_T62
 simp [h]
theorem attrIx_hit (l : List S62) (nm : ByteArray) (k : Nat) (hk : k < l.length) (h : isAt nm (rd_T62 l (k : Int)) = true) (hn : ∀ j : Nat, j < k → isAt nm (rd_T62 l (j : Int)) = false) : attrIx l nm = (k : Int) := by
 have e : l.findIdx (isAt nm) = k := by
  rw [List.findIdx_eq hk]
  refine ⟨by rw [← rdA l k hk]; exact h, fun j hj => ?_⟩
  rw [← rdA l j (Nat.lt_trans hj hk)]
  exact hn j hj
 unfold attrIx
 rw [e, if_pos hk]
theorem attrIx_miss (l : List S62) (nm : ByteArray) (hn : ∀ j : Nat, j < l.length → isAt nm (rd_T62 l (j : Int)) = false) : attrIx l nm = -1 := by
 have e : l.findIdx (isAt nm) = l.length := by
  rw [List.findIdx_eq_length]
  intro x hx
  obtain ⟨j, hj, rfl⟩ := List.getElem_of_mem hx
  rw [← rdA l j hj]
  exact hn j hj
 unfold attrIx
 rw [e, if_neg (Nat.lt_irrefl _)]
set_option maxRecDepth 100000 in
theorem attr19 (A : Option Addr) (c : Nat) (l : List S62) (nm : ByteArray) (g : Nat) (w : World) (hr : Kd.C k62 w A l.length l) (hz : w.cell? ⟨g, 0, none⟩ = some (.string nm)) (hl : l.length ≤ 1000) :
  Calls Tryz.prog 19 #[.slice A l.length c, .func (.func 20) #[] #[.pointer (some ⟨g, 0, none⟩)]] w fun e w' => e = .returned (.int .i64 (attrIx l nm)) ∧ Below w.heap.size w w' := by
 have hu := Tryz.underlying62
 have HB := Aside0.mk (Below.refl w.heap.size w)
 have HR := Aside0.mk hr
 have HZ := Aside0.mk hz
 clear hr hz
 go_enter Tryz.func19, Tryz.ntmps19
 go_wp2_with fail
 go_loopw [8] (fun v8 wr => ∃ k : Nat, k ≤ l.length ∧ v8 = .int .i64 (k : Int) ∧ Aside0 (∀ j : Nat, j < k → isAt nm (rd_T62 l (j : Int)) = false) ∧ Aside0 (Below w.heap.size w wr)) (fun v8 _ => l.length - (intOf v8).toNat)
 case atStart => exact ⟨0, Nat.zero_le _, rfl, ⟨fun j h => by omega⟩, ⟨by repeat (first | exact HB.out | apply below_alloc | apply pw_below_drewN | apply below_drew1)⟩⟩
 case round =>
  clear HB
  obtain ⟨k, hk, rfl, HA, HB⟩ := hrel
  by_cases hlt : k < l.length
  ·have b1 : decide ((k : Int) < (l.length : Int)) = true := decide_eq_true (by omega)
   have p0 : 0 ≤ (k : Int) := by omega
   have q0 : (k : Int) < (l.length : Int) := by omega
   obtain ⟨ad, e, hc0, hc1⟩ := at_T62 (Kd.C_below HR.out HB.out) (k : Int) p0 q0
   subst e
   simp only [Int.toNat_natCast] at hc0 hc1
   have hz1 : wr.cell? ⟨g, 0, none⟩ = some (.string nm) := (HB.out.cell (World.block_lt_of_cell? w _ HZ.out)).trans HZ.out
   have HZ1 := Aside0.mk hz1
   clear hz1
   replace p0 := eq_true p0
   replace q0 := eq_true q0
   by_cases hn : isAt nm (rd_T62 l (k : Int)) = true
   ·have HN := Aside0.mk hn
    have HK := Aside0.mk hlt
    unfold isAt at hn
    go_wp2_with (first | (go_at_call 20; (with_reducible refine (attr20 nm _ _ g _ ?hz).mono ?_); (case hz => exact HZ1.out); rintro e w1 ⟨rfl, hb⟩; have HB1 := Aside0.mk (below_step HB.out hb); clear hb))
    go_ret
    exact ⟨by rw [attrIx_hit l nm k HK.out HN.out HA.out]; rfl, by repeat (first | exact HB1.out | apply below_alloc | apply pw_below_drewN | apply below_drew1)⟩
   ·replace hn : isAt nm (rd_T62 l (k : Int)) = false := by simpa using hn
    have HN := Aside0.mk hn
    unfold isAt at hn
    go_wp2_with (first | (go_at_call 20; (with_reducible refine (attr20 nm _ _ g _ ?hz).mono ?_); (case hz => exact HZ1.out); rintro e w1 ⟨rfl, hb⟩; have HB1 := Aside0.mk (below_step HB.out hb); clear hb))
    go_roundw
    case rel => exact ⟨k + 1, by omega, by go_num, ⟨fun j hj => by
     by_cases e : j = k
     ·subst e; exact HN.out
     ·exact HA.out j (by omega)⟩, ⟨by repeat (first | exact HB1.out | apply below_alloc | apply pw_below_drewN | apply below_drew1)⟩⟩
    case measure => simp [intOf]; omega
  ·have b1 : decide ((k : Int) < (l.length : Int)) = false := decide_eq_false (by omega)
   have hf : attrIx l nm = -1 := attrIx_miss l nm (fun j hj => HA.out j (by omega))
   have HF := Aside0.mk hf
   clear hf
   go_wp2_with fail
   go_ret
   exact ⟨by rw [HF.out]; rfl, by repeat (first | exact HB.out | apply below_alloc | apply pw_below_drewN | apply below_drew1)⟩
def measure_Attribute.f (l0 : List (S62)) (a1 : ByteArray) : Option (Int × Int) := if l0.length ≤ 1000 then (if attrIx l0 a1 < 0 then some (0, 6) else some ((rd_T62 l0 (attrIx l0 a1)).f1, 0)) else none
theorem attrIx_lt (l : List S62) (nm : ByteArray) (h : ¬ attrIx l nm < 0) : 0 ≤ attrIx l nm ∧ attrIx l nm < (l.length : Int) := by
 unfold attrIx at h ⊢
 split
 ·omega
 ·rename_i h1; rw [if_neg h1] at h; omega
theorem measure_Attribute.calls (A0 : Option Addr) (c0 : Nat) (l0 : List (S62)) (a1 : ByteArray) (r1 : Int) (r2 : Int) (w : World) (hr0 : Kd.C k62 w A0 l0.length l0) (hc0 : l0.length ≤ c0) (h : measure_Attribute.f l0 a1 = some (r1, r2)) :
  Calls Tryz.prog 7 #[.slice A0 l0.length c0, .string a1] w fun e w' => e = .returned (.tuple #[.int .i64 r1, .int .i64 r2]) ∧ Below w.heap.size w w' := by
 have hu := Tryz.underlying62
 unfold measure_Attribute.f at h
 by_cases hl : l0.length ≤ 1000
 ·rw [if_pos hl] at h
  have HL := Aside0.mk hl
  have HR := Aside0.mk hr0
  have HB := Aside0.mk (Below.refl w.heap.size w)
  clear hl hr0 hc0
  by_cases hm : attrIx l0 a1 < 0
  ·rw [if_pos hm] at h
   have hd : decide (attrIx l0 a1 < 0) = true := decide_eq_true hm
   clear hm
   obtain ⟨rfl, rfl⟩ := Prod.mk.inj (Option.some.inj h)
   clear h
   go_enter Tryz.func7, Tryz.ntmps7
   go_wp2_with (first | (go_at_call 19; (refine (attr19 A0 c0 l0 a1 w.heap.size _ ?hr ?hz HL.out).mono ?_); (case hr => exact Kd.C_below HR.out (by repeat (first | exact HB.out | apply below_alloc | apply pw_below_drewN | apply below_drew1))); (case hz => go_simp); rintro e w1 ⟨rfl, hb⟩; have HB1 := Aside0.mk (below_step (by repeat (first | exact HB.out | apply below_alloc | apply pw_below_drewN | apply below_drew1)) hb); clear hb))
   go_ret2
   exact ⟨rfl, by repeat (first | exact HB1.out | apply below_alloc | apply pw_below_drewN | apply below_drew1)⟩
  ·rw [if_neg hm] at h
   have hd : decide (attrIx l0 a1 < 0) = false := decide_eq_false hm
   have HM := Aside0.mk (attrIx_lt l0 a1 hm)
   clear hm
   obtain ⟨rfl, rfl⟩ := Prod.mk.inj (Option.some.inj h)
   clear h
   go_enter Tryz.func7, Tryz.ntmps7
   go_wp2_with (first | (go_at_call 19; (refine (attr19 A0 c0 l0 a1 w.heap.size _ ?hr ?hz HL.out).mono ?_); (case hr => exact Kd.C_below HR.out (by repeat (first | exact HB.out | apply below_alloc | apply pw_below_drewN | apply below_drew1))); (case hz => go_simp); rintro e w1 ⟨rfl, hb⟩; have HB1 := Aside0.mk (below_step (by repeat (first | exact HB.out | apply below_alloc | apply pw_below_drewN | apply below_drew1)) hb); clear hb; obtain ⟨ad, e, hc0, hc1⟩ := at_T62 (Kd.C_below HR.out HB1.out) (attrIx l0 a1) HM.out.1 HM.out.2; subst e; have p0 := eq_true HM.out.1; have q0 := eq_true HM.out.2))
   go_ret2
   exact ⟨rfl, by repeat (first | exact HB1.out | apply below_alloc | apply pw_below_drewN | apply below_drew1)⟩
 ·rw [if_neg hl] at h
  cases h
end Go.Proofs.YtilnppdognejbaaGreatDoor.P
namespace Go.Proofs.YtilnppdognejbaaGreatDoor.P
open Go.RowKit Go.Proofs.YtilnppdognejbaaGreatDoorW.PrintWords Go.Proofs.YtilnppdognejbaaGreatDoorW.PrintLast Go.Proofs.YtilnppdognejbaaGreatDoorW.PrintMore
attribute [local go_sem] max2_int min2_int max_two min_two max_three min_three max_four min_four   -- for this text's walks alone
set_option linter.unusedVariables false
set_option linter.unusedSimpArgs false
def pairingbase_Zones.f  : Option ((List (S83))) := some (([(⟨(⟨#[117, 116, 99]⟩ : ByteArray), 0, ([] : List (S120))⟩ : S83), (⟨(⟨#[111, 115, 108, 111]⟩ : ByteArray), 60, (([(⟨1441500, 120⟩ : S120), (⟨1444000, 60⟩ : S120)] : List (S120)))⟩ : S83), (⟨(⟨#[121, 111, 114, 107]⟩ : ByteArray), (-300), (([(⟨1442900, (-240)⟩ : S120)] : List (S120)))⟩ : S83)] : List (S83)))
set_option maxHeartbeats 8000000 in
set_option maxRecDepth 100000 in
theorem pairingbase_Zones.calls  (r : List (S83)) (w : World) (h : pairingbase_Zones.f  = some r) :
  Calls Tryz.prog 45 #[] w fun e w' => ∃ v0_ : Value, e = .returned (v0_) ∧ Kd.N k83 83 w' w.heap.size (fun k_ => (w.heap.size ≤ k_)) v0_ r ∧ Below w.heap.size w w' := by
 have hu83 := Tryz.underlying83
 have hu120 := Tryz.underlying120
 have HB := Aside0.mk (Below.refl w.heap.size w)
 have H : (some (([(⟨(⟨#[117, 116, 99]⟩ : ByteArray), 0, ([] : List (S120))⟩ : S83), (⟨(⟨#[111, 115, 108, 111]⟩ : ByteArray), 60, (([(⟨1441500, 120⟩ : S120), (⟨1444000, 60⟩ : S120)] : List (S120)))⟩ : S83), (⟨(⟨#[121, 111, 114, 107]⟩ : ByteArray), (-300), (([(⟨1442900, (-240)⟩ : S120)] : List (S120)))⟩ : S83)] : List (S83)))) = some r := h
 clear h
 obtain ⟨y101, hy101⟩ : ∃ y_ : List (S120), y_ = (([(⟨1441500, 120⟩ : S120), (⟨1444000, 60⟩ : S120)] : List (S120))) := ⟨_, rfl⟩
 replace H : (some (([(⟨(⟨#[117, 116, 99]⟩ : ByteArray), 0, ([] : List (S120))⟩ : S83), (⟨(⟨#[111, 115, 108, 111]⟩ : ByteArray), 60, y101⟩ : S83), (⟨(⟨#[121, 111, 114, 107]⟩ : ByteArray), (-300), (([(⟨1442900, (-240)⟩ : S120)] : List (S120)))⟩ : S83)] : List (S83)))) = some r := by first | (rw [hy101]; with_reducible exact H) | (have H2_ := (Option.bind_some _ _).symm.trans H; rw [hy101]; with_reducible exact H2_) | (have H2_ := (Option.bind_some _ _).symm.trans H; with_reducible exact H2_) | with_reducible exact H | (rw [hy101]; exact H) | exact H
 have Ny101 := Aside0.mk hy101
 clear hy101
 obtain ⟨y104, hy104⟩ : ∃ y_ : List (S120), y_ = (([(⟨1442900, (-240)⟩ : S120)] : List (S120))) := ⟨_, rfl⟩
 replace H : (some (([(⟨(⟨#[117, 116, 99]⟩ : ByteArray), 0, ([] : List (S120))⟩ : S83), (⟨(⟨#[111, 115, 108, 111]⟩ : ByteArray), 60, y101⟩ : S83), (⟨(⟨#[121, 111, 114, 107]⟩ : ByteArray), (-300), y104⟩ : S83)] : List (S83)))) = some r := by first | (rw [hy104]; with_reducible exact H) | (have H2_ := (Option.bind_some _ _).symm.trans H; rw [hy104]; with_reducible exact H2_) | (have H2_ := (Option.bind_some _ _).symm.trans H; with_reducible exact H2_) | with_reducible exact H | (rw [hy104]; exact H) | exact H
 have Ny104 := Aside0.mk hy104
 clear hy104
 obtain ⟨y107, hy107⟩ : ∃ y_ : List (S83), y_ = (([(⟨(⟨#[117, 116, 99]⟩ : ByteArray), 0, ([] : List (S120))⟩ : S83), (⟨(⟨#[111, 115, 108, 111]⟩ : ByteArray), 60, y101⟩ : S83), (⟨(⟨#[121, 111, 114, 107]⟩ : ByteArray), (-300), y104⟩ : S83)] : List (S83))) := ⟨_, rfl⟩
 replace H : (some y107) = some r := by first | (rw [hy107]; with_reducible exact H) | (have H2_ := (Option.bind_some _ _).symm.trans H; rw [hy107]; with_reducible exact H2_) | (have H2_ := (Option.bind_some _ _).symm.trans H; with_reducible exact H2_) | with_reducible exact H | (rw [hy107]; exact H) | exact H
 have Ny107 := Aside0.mk hy107
 clear hy107
 obtain rfl := Option.some.inj H
 go_enter Tryz.func45, Tryz.ntmps45
 go_wp2_with (first | ((with_reducible refine gate_dst (N := 4) rfl ?_); refine Kd.R_lit k120 _ 120 ?hg (N := 4) ?hd (xs := ([(⟨1441500, 120⟩ : S120), (⟨1444000, 60⟩ : S120)] : List (S120))) (inner := [.int .i64 1441500, .int .i64 120, .int .i64 1444000, .int .i64 60]) (ok := fun _ => True) (okp := fun _ => True) ?hr ?hp (fun _ hk => hk) trivial (Below.refl _ _) (Nat.le_refl _) (by simp) ?_; (case hd => rfl); (case hg => rfl); (case hr => first | (go_simp; done) | (go_simp; rfl)); (case hp => exact (Reps.c2 (show Kd.M k120 _ _ _ (⟨1441500, 120⟩ : S120) [.int .i64 1441500, .int .i64 120] from (k120_mkM _ _ _ (⟨1441500, 120⟩ : S120) )) (Reps.c2 (show Kd.M k120 _ _ _ (⟨1444000, 60⟩ : S120) [.int .i64 1444000, .int .i64 60] from (k120_mkM _ _ _ (⟨1444000, 60⟩ : S120) )) (Reps.none _ _)))); intro v102 w1 ho2 hb hg_ hnew_; clear hg_ hnew_; (first | rw [← Ny101.out] at ho2 | (simp only [Int.reduceToNat] at ho2; rw [← Ny101.out] at ho2)); have HO103 := Aside0.mk (Kd.R_lower (Kd.R_newM (M := fun k_ => (w.heap.size ≤ k_)) ho2 (below_size hbk) (fun k_ h_ => h_)) (below_size hbk)); replace HB := Aside0.mk (below_step hbk hb); clear hb ho2; obtain ⟨Ao3, co3, eo3⟩ := Kd.R_slice HO103.out; subst eo3) | ((with_reducible refine gate_dst (N := 7) rfl ?_); refine Kd.R_lit k120 _ 120 ?hg (N := 7) ?hd (xs := ([(⟨1442900, (-240)⟩ : S120)] : List (S120))) (inner := [.int .i64 1442900, .int .i64 (-240)]) (ok := fun _ => True) (okp := fun _ => True) ?hr ?hp (fun _ hk => hk) trivial (Below.refl _ _) (Nat.le_refl _) (by simp) ?_; (case hd => rfl); (case hg => rfl); (case hr => first | (go_simp; done) | (go_simp; rfl)); (case hp => exact (Reps.c2 (show Kd.M k120 _ _ _ (⟨1442900, (-240)⟩ : S120) [.int .i64 1442900, .int .i64 (-240)] from (k120_mkM _ _ _ (⟨1442900, (-240)⟩ : S120) )) (Reps.none _ _))); intro v105 w4 ho5 hb hg_ hnew_; clear hg_ hnew_; (first | rw [← Ny104.out] at ho5 | (simp only [Int.reduceToNat] at ho5; rw [← Ny104.out] at ho5)); have HO106 := Aside0.mk (Kd.R_lower (Kd.R_new' (Kd.R_newM (M := fun k_ => (w.heap.size ≤ k_)) ho5 (below_size hbk) (fun k_ h_ => h_)) (Kd.R_lt hro)) (below_size hbk)); replace HO103 := Aside0.mk (Kd.R_elder' hro (Kd.R_base ho5) hb); replace HB := Aside0.mk (below_step hbk hb); clear hb ho5; obtain ⟨Ao6, co6, eo6⟩ := Kd.R_slice HO106.out; subst eo6) | ((with_reducible refine gate_dst (N := 9) rfl ?_); refine Kd.N_lit k83 _ 83 ?hg (N' := 9) ?hd (xs := ([(⟨(⟨#[117, 116, 99]⟩ : ByteArray), 0, ([] : List (S120))⟩ : S83), (⟨(⟨#[111, 115, 108, 111]⟩ : ByteArray), 60, y101⟩ : S83), (⟨(⟨#[121, 111, 114, 107]⟩ : ByteArray), (-300), y104⟩ : S83)] : List (S83))) (inner := [.string (⟨#[117, 116, 99]⟩ : ByteArray), .int .i64 0, .slice none 0 0, .string (⟨#[111, 115, 108, 111]⟩ : ByteArray), .int .i64 60, .slice Ao3 y101.length co3, .string (⟨#[121, 111, 114, 107]⟩ : ByteArray), .int .i64 (-300), .slice Ao6 y104.length co6]) (ok := (fun k_ => (w.heap.size ≤ k_))) (okp := (fun k_ => (w.heap.size ≤ k_))) ?hr ?hp (fun _ hk => hk) ((show ∀ k_, w4.heap.size ≤ k_ → (fun k_ => (w.heap.size ≤ k_)) k_ from fun k_ hk => (Nat.le_trans (below_size hbk) hk)) _ (Nat.le_refl _)) (Below.refl _ _) (Nat.le_refl _) (by simp) ?_; (case hd => rfl); (case hg => rfl); (case hr => first | (go_simp; done) | (go_simp; rfl)); (case hp => exact (Reps.c3 (show Kd.FK k83 _ _ (⟨(⟨#[117, 116, 99]⟩ : ByteArray), 0, ([] : List (S120))⟩ : S83) [.string (⟨#[117, 116, 99]⟩ : ByteArray), .int .i64 0, .slice none 0 0] from (k83_mkF _ _ (⟨(⟨#[117, 116, 99]⟩ : ByteArray), 0, ([] : List (S120))⟩ : S83) (Nat.le_refl _) (Kd.F_nil _ _ _))) (Reps.c3 (show Kd.FK k83 _ _ (⟨(⟨#[111, 115, 108, 111]⟩ : ByteArray), 60, y101⟩ : S83) [.string (⟨#[111, 115, 108, 111]⟩ : ByteArray), .int .i64 60, .slice Ao3 y101.length co3] from (k83_mkF _ _ (⟨(⟨#[111, 115, 108, 111]⟩ : ByteArray), 60, y101⟩ : S83) (Kd.R_reads' (Kd.R_mono (ok' := (fun k_ => (w.heap.size ≤ k_))) (HO103.out) (fun k_ hk => hk.1.1))).2.1 (Kd.R_F (Kd.R_mono (ok' := (fun k_ => (w.heap.size ≤ k_))) (HO103.out) (fun k_ hk => hk.1.1))))) (Reps.c3 (show Kd.FK k83 _ _ (⟨(⟨#[121, 111, 114, 107]⟩ : ByteArray), (-300), y104⟩ : S83) [.string (⟨#[121, 111, 114, 107]⟩ : ByteArray), .int .i64 (-300), .slice Ao6 y104.length co6] from (k83_mkF _ _ (⟨(⟨#[121, 111, 114, 107]⟩ : ByteArray), (-300), y104⟩ : S83) (Kd.R_reads' (Kd.R_mono (ok' := (fun k_ => (w.heap.size ≤ k_))) (HO106.out) (fun k_ hk => hk.1.1))).2.1 (Kd.R_F (Kd.R_mono (ok' := (fun k_ => (w.heap.size ≤ k_))) (HO106.out) (fun k_ hk => hk.1.1))))) (Reps.none _ _))))); intro v108 w7 ho8 hb hg_ hnew_; clear hg_ hnew_; (first | rw [← Ny107.out] at ho8 | (simp only [Int.reduceToNat] at ho8; rw [← Ny107.out] at ho8)); have HO109 := Aside0.mk (Kd.N_lower ho8 (below_size hbk)); replace HB := Aside0.mk (below_step hbk hb); clear HO103 HO106; clear hb ho8))
 go_ret
 exact ⟨_, hrf, by (with_reducible repeat (first | apply Kd.N_alloc | apply Kd.N_drewN | apply Kd.N_drew)); exact HO109.out, hbk⟩
end Go.Proofs.YtilnppdognejbaaGreatDoor.P
namespace Go.Proofs.YtilnppdognejbaaGreatDoor.P
open Go.RowKit Go.Proofs.YtilnppdognejbaaGreatDoorW.PrintWords Go.Proofs.YtilnppdognejbaaGreatDoorW.PrintLast Go.Proofs.YtilnppdognejbaaGreatDoorW.PrintMore
attribute [local go_sem] max2_int min2_int max_two min_two max_three min_three max_four min_four   -- for this text's walks alone
set_option linter.unusedVariables false
set_option linter.unusedSimpArgs false
def pairingbase_Airports.f  : Option ((List (S86))) := some (([(⟨(⟨#[65, 65, 65]⟩ : ByteArray), (⟨#[117, 116, 99]⟩ : ByteArray)⟩ : S86), (⟨(⟨#[66, 66, 66]⟩ : ByteArray), (⟨#[111, 115, 108, 111]⟩ : ByteArray)⟩ : S86), (⟨(⟨#[67, 67, 67]⟩ : ByteArray), (⟨#[121, 111, 114, 107]⟩ : ByteArray)⟩ : S86)] : List (S86)))
set_option maxHeartbeats 8000000 in
set_option maxRecDepth 100000 in
theorem pairingbase_Airports.calls  (r : List (S86)) (w : World) (h : pairingbase_Airports.f  = some r) :
  Calls Tryz.prog 46 #[] w fun e w' => ∃ v0_ : Value, e = .returned (v0_) ∧ Kd.R k86 86 w' w.heap.size (fun _ => True) v0_ r ∧ Below w.heap.size w w' := by
 have hu86 := Tryz.underlying86
 have HB := Aside0.mk (Below.refl w.heap.size w)
 have H : (some (([(⟨(⟨#[65, 65, 65]⟩ : ByteArray), (⟨#[117, 116, 99]⟩ : ByteArray)⟩ : S86), (⟨(⟨#[66, 66, 66]⟩ : ByteArray), (⟨#[111, 115, 108, 111]⟩ : ByteArray)⟩ : S86), (⟨(⟨#[67, 67, 67]⟩ : ByteArray), (⟨#[121, 111, 114, 107]⟩ : ByteArray)⟩ : S86)] : List (S86)))) = some r := h
 clear h
 obtain ⟨y110, hy110⟩ : ∃ y_ : List (S86), y_ = (([(⟨(⟨#[65, 65, 65]⟩ : ByteArray), (⟨#[117, 116, 99]⟩ : ByteArray)⟩ : S86), (⟨(⟨#[66, 66, 66]⟩ : ByteArray), (⟨#[111, 115, 108, 111]⟩ : ByteArray)⟩ : S86), (⟨(⟨#[67, 67, 67]⟩ : ByteArray), (⟨#[121, 111, 114, 107]⟩ : ByteArray)⟩ : S86)] : List (S86))) := ⟨_, rfl⟩
 replace H : (some y110) = some r := by first | (rw [hy110]; with_reducible exact H) | (have H2_ := (Option.bind_some _ _).symm.trans H; rw [hy110]; with_reducible exact H2_) | (have H2_ := (Option.bind_some _ _).symm.trans H; with_reducible exact H2_) | with_reducible exact H | (rw [hy110]; exact H) | exact H
 have Ny110 := Aside0.mk hy110
 clear hy110
 obtain rfl := Option.some.inj H
 go_enter Tryz.func46, Tryz.ntmps46
 go_wp2_with (first | ((with_reducible refine gate_dst (N := 4) rfl ?_); refine Kd.R_lit k86 _ 86 ?hg (N := 4) ?hd (xs := ([(⟨(⟨#[65, 65, 65]⟩ : ByteArray), (⟨#[117, 116, 99]⟩ : ByteArray)⟩ : S86), (⟨(⟨#[66, 66, 66]⟩ : ByteArray), (⟨#[111, 115, 108, 111]⟩ : ByteArray)⟩ : S86), (⟨(⟨#[67, 67, 67]⟩ : ByteArray), (⟨#[121, 111, 114, 107]⟩ : ByteArray)⟩ : S86)] : List (S86))) (inner := [.string (⟨#[65, 65, 65]⟩ : ByteArray), .string (⟨#[117, 116, 99]⟩ : ByteArray), .string (⟨#[66, 66, 66]⟩ : ByteArray), .string (⟨#[111, 115, 108, 111]⟩ : ByteArray), .string (⟨#[67, 67, 67]⟩ : ByteArray), .string (⟨#[121, 111, 114, 107]⟩ : ByteArray)]) (ok := fun _ => True) (okp := fun _ => True) ?hr ?hp (fun _ hk => hk) trivial (Below.refl _ _) (Nat.le_refl _) (by simp) ?_; (case hd => rfl); (case hg => rfl); (case hr => first | (go_simp; done) | (go_simp; rfl)); (case hp => exact (Reps.c2 (show Kd.M k86 _ _ _ (⟨(⟨#[65, 65, 65]⟩ : ByteArray), (⟨#[117, 116, 99]⟩ : ByteArray)⟩ : S86) [.string (⟨#[65, 65, 65]⟩ : ByteArray), .string (⟨#[117, 116, 99]⟩ : ByteArray)] from (k86_mkM _ _ _ (⟨(⟨#[65, 65, 65]⟩ : ByteArray), (⟨#[117, 116, 99]⟩ : ByteArray)⟩ : S86) )) (Reps.c2 (show Kd.M k86 _ _ _ (⟨(⟨#[66, 66, 66]⟩ : ByteArray), (⟨#[111, 115, 108, 111]⟩ : ByteArray)⟩ : S86) [.string (⟨#[66, 66, 66]⟩ : ByteArray), .string (⟨#[111, 115, 108, 111]⟩ : ByteArray)] from (k86_mkM _ _ _ (⟨(⟨#[66, 66, 66]⟩ : ByteArray), (⟨#[111, 115, 108, 111]⟩ : ByteArray)⟩ : S86) )) (Reps.c2 (show Kd.M k86 _ _ _ (⟨(⟨#[67, 67, 67]⟩ : ByteArray), (⟨#[121, 111, 114, 107]⟩ : ByteArray)⟩ : S86) [.string (⟨#[67, 67, 67]⟩ : ByteArray), .string (⟨#[121, 111, 114, 107]⟩ : ByteArray)] from (k86_mkM _ _ _ (⟨(⟨#[67, 67, 67]⟩ : ByteArray), (⟨#[121, 111, 114, 107]⟩ : ByteArray)⟩ : S86) )) (Reps.none _ _))))); intro v111 w1 ho2 hb hg_ hnew_; clear hg_ hnew_; (first | rw [← Ny110.out] at ho2 | (simp only [Int.reduceToNat] at ho2; rw [← Ny110.out] at ho2)); have HO112 := Aside0.mk (Kd.R_lower ho2 (below_size hbk)); replace HB := Aside0.mk (below_step hbk hb); clear hb ho2))
 go_ret
 exact ⟨_, hrf, by (with_reducible repeat (first | apply Kd.R_alloc | apply Kd.R_drewN | apply Kd.R_drew)); exact HO112.out, hbk⟩
end Go.Proofs.YtilnppdognejbaaGreatDoor.P
namespace Go.Proofs.YtilnppdognejbaaGreatDoor.P
open Go.RowKit Go.Proofs.YtilnppdognejbaaGreatDoorW.PrintWords Go.Proofs.YtilnppdognejbaaGreatDoorW.PrintLast Go.Proofs.YtilnppdognejbaaGreatDoorW.PrintMore
attribute [local go_sem] max2_int min2_int max_two min_two max_three min_three max_four min_four   -- for this text's walks alone
set_option linter.unusedVariables false
set_option linter.unusedSimpArgs false
def pairinglaw15_example.f  : Option ((List (S83)) × (List (S86)) × (List (S73)) × Int × Int × Int × Int × Int × Int × Int × (List (S105)) × (List (S107)) × (List (S109)) × (List (S103)) × (List (S154)) × (List (S161)) × Int) := (pairingbase_Zones.f).bind fun t117 => ((pairingbase_Airports.f).bind fun t120 => (some (t117, t120, (([(⟨(⟨#[88, 49]⟩ : ByteArray), (⟨#[65, 65, 65]⟩ : ByteArray), (⟨#[66, 66, 66]⟩ : ByteArray), 10560, 10620, (⟨#[98, 55, 51, 55]⟩ : ByteArray), (⟨0, 0, 0⟩ : S71)⟩ : S73), (⟨(⟨#[88, 50]⟩ : ByteArray), (⟨#[66, 66, 66]⟩ : ByteArray), (⟨#[65, 65, 65]⟩ : ByteArray), 10665, 10740, (⟨#[98, 55, 51, 55]⟩ : ByteArray), (⟨0, 0, 0⟩ : S71)⟩ : S73)] : List (S73))), 60, 30, 40, 1440, 2880, 0, 0, ([] : List (S105)), ([] : List (S107)), ([] : List (S109)), ([] : List (S103)), ([] : List (S154)), ([] : List (S161)), 0)))
def pairinglaw15_example.T3 : Bool × List (List Nat × List Nat) := (true, [([], []), ([0], []), ([], []), ([], []), ([2, 3], [2, 3]), ([0, 1, 4], [0, 1, 4]), ([], []), ([5, 1, 0, 1, 2, 3, 4, 5], [5]), ([6, 7, 0, 1, 2, 3, 4, 5, 6, 7], [6])])
def pairinglaw15_example.B3 : List Nat := [0, 1, 0, 0, 12, 31, 0, 63, 255]
theorem pairinglaw15_example.tab3 : rtab .any (opsOf Tryz.f17 3) = pairinglaw15_example.T3 := by kernel_rfl
theorem pairinglaw15_example.bits3 : waitsOk pairinglaw15_example.T3.2 pairinglaw15_example.B3 = true := by kernel_rfl
set_option maxHeartbeats 8000000 in
set_option maxRecDepth 100000 in
theorem pairinglaw15_example.calls  (r1 : List (S83)) (r2 : List (S86)) (r3 : List (S73)) (r4 : Int) (r5 : Int) (r6 : Int) (r7 : Int) (r8 : Int) (r9 : Int) (r10 : Int) (r11 : List (S105)) (r12 : List (S107)) (r13 : List (S109)) (r14 : List (S103)) (r15 : List (S154)) (r16 : List (S161)) (r17 : Int) (w : World) (h : pairinglaw15_example.f  = some (r1, r2, r3, r4, r5, r6, r7, r8, r9, r10, r11, r12, r13, r14, r15, r16, r17)) :
  Calls Tryz.prog 17 #[] w fun e w' => ∃ v0_ v1_ v2_ v10_ v11_ v12_ v13_ v14_ v15_ : Value, e = .returned (.tuple #[.agg #[v0_, v1_, v2_], .agg #[.int .i64 r4, .int .i64 r5, .int .i64 r6, .int .i64 r7, .int .i64 r8, .int .i64 r9, .int .i64 r10, v10_, v11_, v12_, v13_, v14_, v15_, .int .i64 r17]]) ∧ Kd.N k83 83 w' w.heap.size (fun k_ => (w.heap.size ≤ k_)) v0_ r1 ∧ Kd.R k86 86 w' w.heap.size (fun k_ => (w.heap.size ≤ k_)) v1_ r2 ∧ Kd.R k73 73 w' w.heap.size (fun k_ => (w.heap.size ≤ k_)) v2_ r3 ∧ Kd.N k105 105 w' w.heap.size (fun k_ => (w.heap.size ≤ k_)) v10_ r11 ∧ Kd.N k107 107 w' w.heap.size (fun k_ => (w.heap.size ≤ k_)) v11_ r12 ∧ Kd.N k109 109 w' w.heap.size (fun k_ => (w.heap.size ≤ k_)) v12_ r13 ∧ Kd.N k103 103 w' w.heap.size (fun k_ => (w.heap.size ≤ k_)) v13_ r14 ∧ Kd.R k154 154 w' w.heap.size (fun k_ => (w.heap.size ≤ k_)) v14_ r15 ∧ Kd.R k161 161 w' w.heap.size (fun k_ => (w.heap.size ≤ k_)) v15_ r16 ∧ Below w.heap.size w w' := by
 have hu32 := Tryz.underlying32
 have hu40 := Tryz.underlying40
 have hu73 := Tryz.underlying73
 have HB := Aside0.mk (Below.refl w.heap.size w)
 have H : ((pairingbase_Zones.f).bind fun t117 => ((pairingbase_Airports.f).bind fun t120 => (some (t117, t120, (([(⟨(⟨#[88, 49]⟩ : ByteArray), (⟨#[65, 65, 65]⟩ : ByteArray), (⟨#[66, 66, 66]⟩ : ByteArray), 10560, 10620, (⟨#[98, 55, 51, 55]⟩ : ByteArray), (⟨0, 0, 0⟩ : S71)⟩ : S73), (⟨(⟨#[88, 50]⟩ : ByteArray), (⟨#[66, 66, 66]⟩ : ByteArray), (⟨#[65, 65, 65]⟩ : ByteArray), 10665, 10740, (⟨#[98, 55, 51, 55]⟩ : ByteArray), (⟨0, 0, 0⟩ : S71)⟩ : S73)] : List (S73))), 60, 30, 40, 1440, 2880, 0, 0, ([] : List (S105)), ([] : List (S107)), ([] : List (S109)), ([] : List (S103)), ([] : List (S154)), ([] : List (S161)), 0)))) = some (r1, r2, r3, r4, r5, r6, r7, r8, r9, r10, r11, r12, r13, r14, r15, r16, r17) := h
 clear h
 replace H := Option.bind_eq_some_iff.mp H
 obtain ⟨t117, A10, H⟩ := H
 replace H : ((pairingbase_Airports.f).bind fun t120 => (some (t117, t120, (([(⟨(⟨#[88, 49]⟩ : ByteArray), (⟨#[65, 65, 65]⟩ : ByteArray), (⟨#[66, 66, 66]⟩ : ByteArray), 10560, 10620, (⟨#[98, 55, 51, 55]⟩ : ByteArray), (⟨0, 0, 0⟩ : S71)⟩ : S73), (⟨(⟨#[88, 50]⟩ : ByteArray), (⟨#[66, 66, 66]⟩ : ByteArray), (⟨#[65, 65, 65]⟩ : ByteArray), 10665, 10740, (⟨#[98, 55, 51, 55]⟩ : ByteArray), (⟨0, 0, 0⟩ : S71)⟩ : S73)] : List (S73))), 60, 30, 40, 1440, 2880, 0, 0, ([] : List (S105)), ([] : List (S107)), ([] : List (S109)), ([] : List (S103)), ([] : List (S154)), ([] : List (S161)), 0))) = some (r1, r2, r3, r4, r5, r6, r7, r8, r9, r10, r11, r12, r13, r14, r15, r16, r17) := H
 have A1 := Aside0.mk A10
 clear A10
 replace H := Option.bind_eq_some_iff.mp H
 obtain ⟨t120, A20, H⟩ := H
 replace H : (some (t117, t120, (([(⟨(⟨#[88, 49]⟩ : ByteArray), (⟨#[65, 65, 65]⟩ : ByteArray), (⟨#[66, 66, 66]⟩ : ByteArray), 10560, 10620, (⟨#[98, 55, 51, 55]⟩ : ByteArray), (⟨0, 0, 0⟩ : S71)⟩ : S73), (⟨(⟨#[88, 50]⟩ : ByteArray), (⟨#[66, 66, 66]⟩ : ByteArray), (⟨#[65, 65, 65]⟩ : ByteArray), 10665, 10740, (⟨#[98, 55, 51, 55]⟩ : ByteArray), (⟨0, 0, 0⟩ : S71)⟩ : S73)] : List (S73))), 60, 30, 40, 1440, 2880, 0, 0, ([] : List (S105)), ([] : List (S107)), ([] : List (S109)), ([] : List (S103)), ([] : List (S154)), ([] : List (S161)), 0)) = some (r1, r2, r3, r4, r5, r6, r7, r8, r9, r10, r11, r12, r13, r14, r15, r16, r17) := H
 have A2 := Aside0.mk A20
 clear A20
 obtain ⟨y123, hy123⟩ : ∃ y_ : List (S73), y_ = (([(⟨(⟨#[88, 49]⟩ : ByteArray), (⟨#[65, 65, 65]⟩ : ByteArray), (⟨#[66, 66, 66]⟩ : ByteArray), 10560, 10620, (⟨#[98, 55, 51, 55]⟩ : ByteArray), (⟨0, 0, 0⟩ : S71)⟩ : S73), (⟨(⟨#[88, 50]⟩ : ByteArray), (⟨#[66, 66, 66]⟩ : ByteArray), (⟨#[65, 65, 65]⟩ : ByteArray), 10665, 10740, (⟨#[98, 55, 51, 55]⟩ : ByteArray), (⟨0, 0, 0⟩ : S71)⟩ : S73)] : List (S73))) := ⟨_, rfl⟩
 replace H : (some (t117, t120, y123, 60, 30, 40, 1440, 2880, 0, 0, ([] : List (S105)), ([] : List (S107)), ([] : List (S109)), ([] : List (S103)), ([] : List (S154)), ([] : List (S161)), 0)) = some (r1, r2, r3, r4, r5, r6, r7, r8, r9, r10, r11, r12, r13, r14, r15, r16, r17) := by first | (rw [hy123]; with_reducible exact H) | (have H2_ := (Option.bind_some _ _).symm.trans H; rw [hy123]; with_reducible exact H2_) | (have H2_ := (Option.bind_some _ _).symm.trans H; with_reducible exact H2_) | with_reducible exact H | (rw [hy123]; exact H) | exact H
 have Ny123 := Aside0.mk hy123
 clear hy123
 simp only [Option.some.injEq, Prod.mk.injEq] at H
 obtain ⟨rfl, rfl, rfl, rfl, rfl, rfl, rfl, rfl, rfl, rfl, rfl, rfl, rfl, rfl, rfl, rfl, rfl⟩ := H
 go_enter Tryz.func17, Tryz.ntmps17
 try go_wp2_with (first | ((with_reducible refine gate_dst (N := 0) rfl ?_); refine box_event ?hg (N := 0) ?hd (cs := #[.slice none 0 0, .slice none 0 0, .slice none 0 0]) (t := 32) ?hr ?_; (case hd => rfl); (case hg => rfl); (case hr => first | (go_simp; done) | (go_simp; rfl)); intro gb113 hg w3 hbox hb; have BK113 := Aside0.mk hbox; have GE113 := Aside0.mk ((by rw [hg]; exact (below_size hbk) : w.heap.size ≤ gb113)); replace HB := Aside0.mk (below_step hbk hb); clear hb hbox hg) | ((with_reducible refine gate_dst (N := 1) rfl ?_); refine box_event ?hg (N := 1) ?hd (cs := #[.int .i64 0, .int .i64 0, .int .i64 0, .int .i64 0, .int .i64 0, .int .i64 0, .int .i64 0, .slice none 0 0, .slice none 0 0, .slice none 0 0, .slice none 0 0, .slice none 0 0, .slice none 0 0, .int .i64 0]) (t := 40) ?hr ?_; (case hd => rfl); (case hg => rfl); (case hr => first | (go_simp; done) | (go_simp; rfl)); intro gb114 hg w4 hbox hb; have BK114 := Aside0.mk hbox; have GE114 := Aside0.mk ((by rw [hg]; exact (below_size hbk) : w.heap.size ≤ gb114)); have NB113_114 := Aside0.mk ((by rw [hg]; exact Nat.ne_of_lt (blk_ltB BK113.out) : gb113 ≠ gb114)); have NB114_113 := Aside0.mk ((by rw [hg]; exact Nat.ne_of_gt (blk_ltB BK113.out) : gb114 ≠ gb113)); replace BK113 := Aside0.mk (blk_belowB BK113.out hb); replace HB := Aside0.mk (below_step hbk hb); clear hb hbox hg) | ((with_reducible refine gate_dst (N := 2) rfl ?_); refine box_event ?hg (N := 2) ?hd (cs := #[.string (⟨#[]⟩ : ByteArray), .string (⟨#[]⟩ : ByteArray), .string (⟨#[]⟩ : ByteArray), .int .i64 0, .int .i64 0, .string (⟨#[]⟩ : ByteArray), .int .i64 0, .int .i64 0, .int .i64 0]) (t := 73) ?hr ?_; (case hd => rfl); (case hg => rfl); (case hr => first | (go_simp; done) | (go_simp; rfl)); intro gb115 hg w5 hbox hb; have BK115 := Aside0.mk hbox; have GE115 := Aside0.mk ((by rw [hg]; exact (below_size hbk) : w.heap.size ≤ gb115)); have NB113_115 := Aside0.mk ((by rw [hg]; exact Nat.ne_of_lt (blk_ltB BK113.out) : gb113 ≠ gb115)); have NB115_113 := Aside0.mk ((by rw [hg]; exact Nat.ne_of_gt (blk_ltB BK113.out) : gb115 ≠ gb113)); have NB114_115 := Aside0.mk ((by rw [hg]; exact Nat.ne_of_lt (blk_ltB BK114.out) : gb114 ≠ gb115)); have NB115_114 := Aside0.mk ((by rw [hg]; exact Nat.ne_of_gt (blk_ltB BK114.out) : gb115 ≠ gb114)); replace BK113 := Aside0.mk (blk_belowB BK113.out hb); replace BK114 := Aside0.mk (blk_belowB BK114.out hb); replace HB := Aside0.mk (below_step hbk hb); clear hb hbox hg; have hnb6 := NB115_113.out; have hnc6 := NB113_115.out; have hnb7 := NB115_114.out; have hnc7 := NB114_115.out; obtain ⟨hcz8_0, hcz8_1, hcz8_2, hcz8_3, hcz8_4, hcz8_5, hcz8_6, hcz8_7, hcz8_8⟩ := blk_cs9 BK115.out; obtain ⟨hfz8_0, hfz8_1, hfz8_2, hfz8_3, hfz8_4, hfz8_5, hfz8_6, hfz8_7, hfz8_8⟩ := blk_fs9 BK115.out) | ((with_reducible refine gate_dst (N := 3) rfl ?_); refine box_event ?hg (N := 3) ?hd (cs := #[.string (⟨#[]⟩ : ByteArray), .string (⟨#[]⟩ : ByteArray), .string (⟨#[]⟩ : ByteArray), .int .i64 0, .int .i64 0, .string (⟨#[]⟩ : ByteArray), .int .i64 0, .int .i64 0, .int .i64 0]) (t := 73) ?hr ?_; (case hd => rfl); (case hg => rfl); (case hr => first | (go_simp; done) | (go_simp; rfl)); intro gb116 hg w9 hbox hb; have n0_ := Aside0.mk (blk_belowB BK113.out hb); have n1_ := Aside0.mk (blk_belowB BK114.out hb); have n2_ := Aside0.mk (blk_below (g := gb115) (o := .cells #[.string (⟨#[88, 49]⟩ : ByteArray), .string (⟨#[65, 65, 65]⟩ : ByteArray), .string (⟨#[66, 66, 66]⟩ : ByteArray), .int .i64 10560, .int .i64 10620, .string (⟨#[98, 55, 51, 55]⟩ : ByteArray), .int .i64 0, .int .i64 0, .int .i64 0] 73 (0, 0)) (by (with_reducible repeat (first | refine blk_drewN ?_ _ | refine blk_drew ?_ | refine blk_alloc ?_ _)); refine blk_put (cs := #[.string (⟨#[88, 49]⟩ : ByteArray), .string (⟨#[65, 65, 65]⟩ : ByteArray), .string (⟨#[66, 66, 66]⟩ : ByteArray), .int .i64 10560, .int .i64 10620, .string (⟨#[98, 55, 51, 55]⟩ : ByteArray), .int .i64 0, .int .i64 0, .int .i64 0]) ?_ 8 _ rfl; refine blk_put (cs := #[.string (⟨#[88, 49]⟩ : ByteArray), .string (⟨#[65, 65, 65]⟩ : ByteArray), .string (⟨#[66, 66, 66]⟩ : ByteArray), .int .i64 10560, .int .i64 10620, .string (⟨#[98, 55, 51, 55]⟩ : ByteArray), .int .i64 0, .int .i64 0, .int .i64 0]) ?_ 7 _ rfl; refine blk_put (cs := #[.string (⟨#[88, 49]⟩ : ByteArray), .string (⟨#[65, 65, 65]⟩ : ByteArray), .string (⟨#[66, 66, 66]⟩ : ByteArray), .int .i64 10560, .int .i64 10620, .string (⟨#[98, 55, 51, 55]⟩ : ByteArray), .int .i64 0, .int .i64 0, .int .i64 0]) ?_ 6 _ rfl; refine blk_put (cs := #[.string (⟨#[88, 49]⟩ : ByteArray), .string (⟨#[65, 65, 65]⟩ : ByteArray), .string (⟨#[66, 66, 66]⟩ : ByteArray), .int .i64 10560, .int .i64 10620, .string (⟨#[]⟩ : ByteArray), .int .i64 0, .int .i64 0, .int .i64 0]) ?_ 5 _ rfl; refine blk_put (cs := #[.string (⟨#[88, 49]⟩ : ByteArray), .string (⟨#[65, 65, 65]⟩ : ByteArray), .string (⟨#[66, 66, 66]⟩ : ByteArray), .int .i64 10560, .int .i64 0, .string (⟨#[]⟩ : ByteArray), .int .i64 0, .int .i64 0, .int .i64 0]) ?_ 4 _ rfl; refine blk_put (cs := #[.string (⟨#[88, 49]⟩ : ByteArray), .string (⟨#[65, 65, 65]⟩ : ByteArray), .string (⟨#[66, 66, 66]⟩ : ByteArray), .int .i64 0, .int .i64 0, .string (⟨#[]⟩ : ByteArray), .int .i64 0, .int .i64 0, .int .i64 0]) ?_ 3 _ rfl; refine blk_put (cs := #[.string (⟨#[88, 49]⟩ : ByteArray), .string (⟨#[65, 65, 65]⟩ : ByteArray), .string (⟨#[]⟩ : ByteArray), .int .i64 0, .int .i64 0, .string (⟨#[]⟩ : ByteArray), .int .i64 0, .int .i64 0, .int .i64 0]) ?_ 2 _ rfl; refine blk_put (cs := #[.string (⟨#[88, 49]⟩ : ByteArray), .string (⟨#[]⟩ : ByteArray), .string (⟨#[]⟩ : ByteArray), .int .i64 0, .int .i64 0, .string (⟨#[]⟩ : ByteArray), .int .i64 0, .int .i64 0, .int .i64 0]) ?_ 1 _ rfl; refine blk_put (cs := #[.string (⟨#[]⟩ : ByteArray), .string (⟨#[]⟩ : ByteArray), .string (⟨#[]⟩ : ByteArray), .int .i64 0, .int .i64 0, .string (⟨#[]⟩ : ByteArray), .int .i64 0, .int .i64 0, .int .i64 0]) ?_ 0 _ rfl; (with_reducible repeat (first | refine blk_drewN ?_ _ | refine blk_drew ?_ | refine blk_alloc ?_ _)); exact BK115.out) hb); have n3_ := Aside0.mk (below_step hbk hb); have n4_ := Aside0.mk hbox; have n5_ := Aside0.mk ((by rw [hg]; exact (below_size hbk) : w.heap.size ≤ gb116)); have n6_ := Aside0.mk ((by rw [hg]; exact (below_size hbk) : w.heap.size ≤ gb116)); have n7_ := Aside0.mk ((by rw [hg]; exact Nat.ne_of_lt (blk_ltB BK113.out) : gb113 ≠ gb116)); have n8_ := Aside0.mk ((by rw [hg]; exact Nat.ne_of_gt (blk_ltB BK113.out) : gb116 ≠ gb113)); have n9_ := Aside0.mk ((by rw [hg]; exact Nat.ne_of_lt (blk_ltB BK114.out) : gb114 ≠ gb116)); have n10_ := Aside0.mk ((by rw [hg]; exact Nat.ne_of_gt (blk_ltB BK114.out) : gb116 ≠ gb114)); have n11_ := Aside0.mk ((by rw [hg]; exact Nat.ne_of_lt (blk_lt (g := gb115) (o := .cells #[.string (⟨#[88, 49]⟩ : ByteArray), .string (⟨#[65, 65, 65]⟩ : ByteArray), .string (⟨#[66, 66, 66]⟩ : ByteArray), .int .i64 10560, .int .i64 10620, .string (⟨#[98, 55, 51, 55]⟩ : ByteArray), .int .i64 0, .int .i64 0, .int .i64 0] 73 (0, 0)) (by (with_reducible repeat (first | refine blk_drewN ?_ _ | refine blk_drew ?_ | refine blk_alloc ?_ _)); refine blk_put (cs := #[.string (⟨#[88, 49]⟩ : ByteArray), .string (⟨#[65, 65, 65]⟩ : ByteArray), .string (⟨#[66, 66, 66]⟩ : ByteArray), .int .i64 10560, .int .i64 10620, .string (⟨#[98, 55, 51, 55]⟩ : ByteArray), .int .i64 0, .int .i64 0, .int .i64 0]) ?_ 8 _ rfl; refine blk_put (cs := #[.string (⟨#[88, 49]⟩ : ByteArray), .string (⟨#[65, 65, 65]⟩ : ByteArray), .string (⟨#[66, 66, 66]⟩ : ByteArray), .int .i64 10560, .int .i64 10620, .string (⟨#[98, 55, 51, 55]⟩ : ByteArray), .int .i64 0, .int .i64 0, .int .i64 0]) ?_ 7 _ rfl; refine blk_put (cs := #[.string (⟨#[88, 49]⟩ : ByteArray), .string (⟨#[65, 65, 65]⟩ : ByteArray), .string (⟨#[66, 66, 66]⟩ : ByteArray), .int .i64 10560, .int .i64 10620, .string (⟨#[98, 55, 51, 55]⟩ : ByteArray), .int .i64 0, .int .i64 0, .int .i64 0]) ?_ 6 _ rfl; refine blk_put (cs := #[.string (⟨#[88, 49]⟩ : ByteArray), .string (⟨#[65, 65, 65]⟩ : ByteArray), .string (⟨#[66, 66, 66]⟩ : ByteArray), .int .i64 10560, .int .i64 10620, .string (⟨#[]⟩ : ByteArray), .int .i64 0, .int .i64 0, .int .i64 0]) ?_ 5 _ rfl; refine blk_put (cs := #[.string (⟨#[88, 49]⟩ : ByteArray), .string (⟨#[65, 65, 65]⟩ : ByteArray), .string (⟨#[66, 66, 66]⟩ : ByteArray), .int .i64 10560, .int .i64 0, .string (⟨#[]⟩ : ByteArray), .int .i64 0, .int .i64 0, .int .i64 0]) ?_ 4 _ rfl; refine blk_put (cs := #[.string (⟨#[88, 49]⟩ : ByteArray), .string (⟨#[65, 65, 65]⟩ : ByteArray), .string (⟨#[66, 66, 66]⟩ : ByteArray), .int .i64 0, .int .i64 0, .string (⟨#[]⟩ : ByteArray), .int .i64 0, .int .i64 0, .int .i64 0]) ?_ 3 _ rfl; refine blk_put (cs := #[.string (⟨#[88, 49]⟩ : ByteArray), .string (⟨#[65, 65, 65]⟩ : ByteArray), .string (⟨#[]⟩ : ByteArray), .int .i64 0, .int .i64 0, .string (⟨#[]⟩ : ByteArray), .int .i64 0, .int .i64 0, .int .i64 0]) ?_ 2 _ rfl; refine blk_put (cs := #[.string (⟨#[88, 49]⟩ : ByteArray), .string (⟨#[]⟩ : ByteArray), .string (⟨#[]⟩ : ByteArray), .int .i64 0, .int .i64 0, .string (⟨#[]⟩ : ByteArray), .int .i64 0, .int .i64 0, .int .i64 0]) ?_ 1 _ rfl; refine blk_put (cs := #[.string (⟨#[]⟩ : ByteArray), .string (⟨#[]⟩ : ByteArray), .string (⟨#[]⟩ : ByteArray), .int .i64 0, .int .i64 0, .string (⟨#[]⟩ : ByteArray), .int .i64 0, .int .i64 0, .int .i64 0]) ?_ 0 _ rfl; (with_reducible repeat (first | refine blk_drewN ?_ _ | refine blk_drew ?_ | refine blk_alloc ?_ _)); exact BK115.out)) : gb115 ≠ gb116)); have n12_ := Aside0.mk ((by rw [hg]; exact Nat.ne_of_gt (blk_lt (g := gb115) (o := .cells #[.string (⟨#[88, 49]⟩ : ByteArray), .string (⟨#[65, 65, 65]⟩ : ByteArray), .string (⟨#[66, 66, 66]⟩ : ByteArray), .int .i64 10560, .int .i64 10620, .string (⟨#[98, 55, 51, 55]⟩ : ByteArray), .int .i64 0, .int .i64 0, .int .i64 0] 73 (0, 0)) (by (with_reducible repeat (first | refine blk_drewN ?_ _ | refine blk_drew ?_ | refine blk_alloc ?_ _)); refine blk_put (cs := #[.string (⟨#[88, 49]⟩ : ByteArray), .string (⟨#[65, 65, 65]⟩ : ByteArray), .string (⟨#[66, 66, 66]⟩ : ByteArray), .int .i64 10560, .int .i64 10620, .string (⟨#[98, 55, 51, 55]⟩ : ByteArray), .int .i64 0, .int .i64 0, .int .i64 0]) ?_ 8 _ rfl; refine blk_put (cs := #[.string (⟨#[88, 49]⟩ : ByteArray), .string (⟨#[65, 65, 65]⟩ : ByteArray), .string (⟨#[66, 66, 66]⟩ : ByteArray), .int .i64 10560, .int .i64 10620, .string (⟨#[98, 55, 51, 55]⟩ : ByteArray), .int .i64 0, .int .i64 0, .int .i64 0]) ?_ 7 _ rfl; refine blk_put (cs := #[.string (⟨#[88, 49]⟩ : ByteArray), .string (⟨#[65, 65, 65]⟩ : ByteArray), .string (⟨#[66, 66, 66]⟩ : ByteArray), .int .i64 10560, .int .i64 10620, .string (⟨#[98, 55, 51, 55]⟩ : ByteArray), .int .i64 0, .int .i64 0, .int .i64 0]) ?_ 6 _ rfl; refine blk_put (cs := #[.string (⟨#[88, 49]⟩ : ByteArray), .string (⟨#[65, 65, 65]⟩ : ByteArray), .string (⟨#[66, 66, 66]⟩ : ByteArray), .int .i64 10560, .int .i64 10620, .string (⟨#[]⟩ : ByteArray), .int .i64 0, .int .i64 0, .int .i64 0]) ?_ 5 _ rfl; refine blk_put (cs := #[.string (⟨#[88, 49]⟩ : ByteArray), .string (⟨#[65, 65, 65]⟩ : ByteArray), .string (⟨#[66, 66, 66]⟩ : ByteArray), .int .i64 10560, .int .i64 0, .string (⟨#[]⟩ : ByteArray), .int .i64 0, .int .i64 0, .int .i64 0]) ?_ 4 _ rfl; refine blk_put (cs := #[.string (⟨#[88, 49]⟩ : ByteArray), .string (⟨#[65, 65, 65]⟩ : ByteArray), .string (⟨#[66, 66, 66]⟩ : ByteArray), .int .i64 0, .int .i64 0, .string (⟨#[]⟩ : ByteArray), .int .i64 0, .int .i64 0, .int .i64 0]) ?_ 3 _ rfl; refine blk_put (cs := #[.string (⟨#[88, 49]⟩ : ByteArray), .string (⟨#[65, 65, 65]⟩ : ByteArray), .string (⟨#[]⟩ : ByteArray), .int .i64 0, .int .i64 0, .string (⟨#[]⟩ : ByteArray), .int .i64 0, .int .i64 0, .int .i64 0]) ?_ 2 _ rfl; refine blk_put (cs := #[.string (⟨#[88, 49]⟩ : ByteArray), .string (⟨#[]⟩ : ByteArray), .string (⟨#[]⟩ : ByteArray), .int .i64 0, .int .i64 0, .string (⟨#[]⟩ : ByteArray), .int .i64 0, .int .i64 0, .int .i64 0]) ?_ 1 _ rfl; refine blk_put (cs := #[.string (⟨#[]⟩ : ByteArray), .string (⟨#[]⟩ : ByteArray), .string (⟨#[]⟩ : ByteArray), .int .i64 0, .int .i64 0, .string (⟨#[]⟩ : ByteArray), .int .i64 0, .int .i64 0, .int .i64 0]) ?_ 0 _ rfl; (with_reducible repeat (first | refine blk_drewN ?_ _ | refine blk_drew ?_ | refine blk_alloc ?_ _)); exact BK115.out)) : gb116 ≠ gb115)); clear BK113; clear BK114; clear BK115; clear HB; have BK113 := n0_; have BK114 := n1_; have BK115 := n2_; have HB := n3_; have BK116 := n4_; have GW116 := n5_; have GE116 := n6_; have NB113_116 := n7_; have NB116_113 := n8_; have NB114_116 := n9_; have NB116_114 := n10_; have NB115_116 := n11_; have NB116_115 := n12_; clear n0_ n1_ n2_ n3_ n4_ n5_ n6_ n7_ n8_ n9_ n10_ n11_ n12_; clear hb hbox hg; have hnb10 := NB116_113.out; have hnc10 := NB113_116.out; have hnb11 := NB116_114.out; have hnc11 := NB114_116.out; have hnb12 := NB116_115.out; have hnc12 := NB115_116.out; obtain ⟨hcz13_0, hcz13_1, hcz13_2, hcz13_3, hcz13_4, hcz13_5, hcz13_6, hcz13_7, hcz13_8⟩ := blk_cs9 BK116.out; obtain ⟨hfz13_0, hfz13_1, hfz13_2, hfz13_3, hfz13_4, hfz13_5, hfz13_6, hfz13_7, hfz13_8⟩ := blk_fs9 BK116.out))
 have n0_ : Aside0 ((((((((((w9.setCell ⟨gb116, 0, none⟩ (.string (⟨#[88, 50]⟩ : ByteArray))).setCell ⟨gb116, 1, none⟩ (.string (⟨#[66, 66, 66]⟩ : ByteArray))).setCell ⟨gb116, 2, none⟩ (.string (⟨#[65, 65, 65]⟩ : ByteArray))).setCell ⟨gb116, 3, none⟩ (.int .i64 10665)).setCell ⟨gb116, 4, none⟩ (.int .i64 10740)).setCell ⟨gb116, 5, none⟩ (.string (⟨#[98, 55, 51, 55]⟩ : ByteArray))).setCell ⟨gb116, 6, none⟩ (.int .i64 0)).setCell ⟨gb116, 7, none⟩ (.int .i64 0)).setCell ⟨gb116, 8, none⟩ (.int .i64 0)).heap[gb113]? = some (.cells #[.slice none 0 0, .slice none 0 0, .slice none 0 0] 32 (0, 0))) := ⟨by (with_reducible repeat (first | refine blk_drewN ?_ _ | refine blk_drew ?_ | refine blk_alloc ?_ _)); refine blk_far ?_ NB113_116.out _; refine blk_far ?_ NB113_116.out _; refine blk_far ?_ NB113_116.out _; refine blk_far ?_ NB113_116.out _; refine blk_far ?_ NB113_116.out _; refine blk_far ?_ NB113_116.out _; refine blk_far ?_ NB113_116.out _; refine blk_far ?_ NB113_116.out _; refine blk_far ?_ NB113_116.out _; (with_reducible repeat (first | refine blk_drewN ?_ _ | refine blk_drew ?_ | refine blk_alloc ?_ _)); exact BK113.out⟩
 have n1_ : Aside0 ((((((((((w9.setCell ⟨gb116, 0, none⟩ (.string (⟨#[88, 50]⟩ : ByteArray))).setCell ⟨gb116, 1, none⟩ (.string (⟨#[66, 66, 66]⟩ : ByteArray))).setCell ⟨gb116, 2, none⟩ (.string (⟨#[65, 65, 65]⟩ : ByteArray))).setCell ⟨gb116, 3, none⟩ (.int .i64 10665)).setCell ⟨gb116, 4, none⟩ (.int .i64 10740)).setCell ⟨gb116, 5, none⟩ (.string (⟨#[98, 55, 51, 55]⟩ : ByteArray))).setCell ⟨gb116, 6, none⟩ (.int .i64 0)).setCell ⟨gb116, 7, none⟩ (.int .i64 0)).setCell ⟨gb116, 8, none⟩ (.int .i64 0)).heap[gb114]? = some (.cells #[.int .i64 0, .int .i64 0, .int .i64 0, .int .i64 0, .int .i64 0, .int .i64 0, .int .i64 0, .slice none 0 0, .slice none 0 0, .slice none 0 0, .slice none 0 0, .slice none 0 0, .slice none 0 0, .int .i64 0] 40 (0, 0))) := ⟨by (with_reducible repeat (first | refine blk_drewN ?_ _ | refine blk_drew ?_ | refine blk_alloc ?_ _)); refine blk_far ?_ NB114_116.out _; refine blk_far ?_ NB114_116.out _; refine blk_far ?_ NB114_116.out _; refine blk_far ?_ NB114_116.out _; refine blk_far ?_ NB114_116.out _; refine blk_far ?_ NB114_116.out _; refine blk_far ?_ NB114_116.out _; refine blk_far ?_ NB114_116.out _; refine blk_far ?_ NB114_116.out _; (with_reducible repeat (first | refine blk_drewN ?_ _ | refine blk_drew ?_ | refine blk_alloc ?_ _)); exact BK114.out⟩
 have n2_ : Aside0 ((((((((((w9.setCell ⟨gb116, 0, none⟩ (.string (⟨#[88, 50]⟩ : ByteArray))).setCell ⟨gb116, 1, none⟩ (.string (⟨#[66, 66, 66]⟩ : ByteArray))).setCell ⟨gb116, 2, none⟩ (.string (⟨#[65, 65, 65]⟩ : ByteArray))).setCell ⟨gb116, 3, none⟩ (.int .i64 10665)).setCell ⟨gb116, 4, none⟩ (.int .i64 10740)).setCell ⟨gb116, 5, none⟩ (.string (⟨#[98, 55, 51, 55]⟩ : ByteArray))).setCell ⟨gb116, 6, none⟩ (.int .i64 0)).setCell ⟨gb116, 7, none⟩ (.int .i64 0)).setCell ⟨gb116, 8, none⟩ (.int .i64 0)).heap[gb115]? = some (.cells #[.string (⟨#[88, 49]⟩ : ByteArray), .string (⟨#[65, 65, 65]⟩ : ByteArray), .string (⟨#[66, 66, 66]⟩ : ByteArray), .int .i64 10560, .int .i64 10620, .string (⟨#[98, 55, 51, 55]⟩ : ByteArray), .int .i64 0, .int .i64 0, .int .i64 0] 73 (0, 0))) := ⟨by (with_reducible repeat (first | refine blk_drewN ?_ _ | refine blk_drew ?_ | refine blk_alloc ?_ _)); refine blk_far ?_ NB115_116.out _; refine blk_far ?_ NB115_116.out _; refine blk_far ?_ NB115_116.out _; refine blk_far ?_ NB115_116.out _; refine blk_far ?_ NB115_116.out _; refine blk_far ?_ NB115_116.out _; refine blk_far ?_ NB115_116.out _; refine blk_far ?_ NB115_116.out _; refine blk_far ?_ NB115_116.out _; (with_reducible repeat (first | refine blk_drewN ?_ _ | refine blk_drew ?_ | refine blk_alloc ?_ _)); exact BK115.out⟩
 have n3_ : Aside0 ((((((((((w9.setCell ⟨gb116, 0, none⟩ (.string (⟨#[88, 50]⟩ : ByteArray))).setCell ⟨gb116, 1, none⟩ (.string (⟨#[66, 66, 66]⟩ : ByteArray))).setCell ⟨gb116, 2, none⟩ (.string (⟨#[65, 65, 65]⟩ : ByteArray))).setCell ⟨gb116, 3, none⟩ (.int .i64 10665)).setCell ⟨gb116, 4, none⟩ (.int .i64 10740)).setCell ⟨gb116, 5, none⟩ (.string (⟨#[98, 55, 51, 55]⟩ : ByteArray))).setCell ⟨gb116, 6, none⟩ (.int .i64 0)).setCell ⟨gb116, 7, none⟩ (.int .i64 0)).setCell ⟨gb116, 8, none⟩ (.int .i64 0)).heap[gb116]? = some (.cells #[.string (⟨#[88, 50]⟩ : ByteArray), .string (⟨#[66, 66, 66]⟩ : ByteArray), .string (⟨#[65, 65, 65]⟩ : ByteArray), .int .i64 10665, .int .i64 10740, .string (⟨#[98, 55, 51, 55]⟩ : ByteArray), .int .i64 0, .int .i64 0, .int .i64 0] 73 (0, 0))) := ⟨by (with_reducible repeat (first | refine blk_drewN ?_ _ | refine blk_drew ?_ | refine blk_alloc ?_ _)); refine blk_put (cs := #[.string (⟨#[88, 50]⟩ : ByteArray), .string (⟨#[66, 66, 66]⟩ : ByteArray), .string (⟨#[65, 65, 65]⟩ : ByteArray), .int .i64 10665, .int .i64 10740, .string (⟨#[98, 55, 51, 55]⟩ : ByteArray), .int .i64 0, .int .i64 0, .int .i64 0]) ?_ 8 _ rfl; refine blk_put (cs := #[.string (⟨#[88, 50]⟩ : ByteArray), .string (⟨#[66, 66, 66]⟩ : ByteArray), .string (⟨#[65, 65, 65]⟩ : ByteArray), .int .i64 10665, .int .i64 10740, .string (⟨#[98, 55, 51, 55]⟩ : ByteArray), .int .i64 0, .int .i64 0, .int .i64 0]) ?_ 7 _ rfl; refine blk_put (cs := #[.string (⟨#[88, 50]⟩ : ByteArray), .string (⟨#[66, 66, 66]⟩ : ByteArray), .string (⟨#[65, 65, 65]⟩ : ByteArray), .int .i64 10665, .int .i64 10740, .string (⟨#[98, 55, 51, 55]⟩ : ByteArray), .int .i64 0, .int .i64 0, .int .i64 0]) ?_ 6 _ rfl; refine blk_put (cs := #[.string (⟨#[88, 50]⟩ : ByteArray), .string (⟨#[66, 66, 66]⟩ : ByteArray), .string (⟨#[65, 65, 65]⟩ : ByteArray), .int .i64 10665, .int .i64 10740, .string (⟨#[]⟩ : ByteArray), .int .i64 0, .int .i64 0, .int .i64 0]) ?_ 5 _ rfl; refine blk_put (cs := #[.string (⟨#[88, 50]⟩ : ByteArray), .string (⟨#[66, 66, 66]⟩ : ByteArray), .string (⟨#[65, 65, 65]⟩ : ByteArray), .int .i64 10665, .int .i64 0, .string (⟨#[]⟩ : ByteArray), .int .i64 0, .int .i64 0, .int .i64 0]) ?_ 4 _ rfl; refine blk_put (cs := #[.string (⟨#[88, 50]⟩ : ByteArray), .string (⟨#[66, 66, 66]⟩ : ByteArray), .string (⟨#[65, 65, 65]⟩ : ByteArray), .int .i64 0, .int .i64 0, .string (⟨#[]⟩ : ByteArray), .int .i64 0, .int .i64 0, .int .i64 0]) ?_ 3 _ rfl; refine blk_put (cs := #[.string (⟨#[88, 50]⟩ : ByteArray), .string (⟨#[66, 66, 66]⟩ : ByteArray), .string (⟨#[]⟩ : ByteArray), .int .i64 0, .int .i64 0, .string (⟨#[]⟩ : ByteArray), .int .i64 0, .int .i64 0, .int .i64 0]) ?_ 2 _ rfl; refine blk_put (cs := #[.string (⟨#[88, 50]⟩ : ByteArray), .string (⟨#[]⟩ : ByteArray), .string (⟨#[]⟩ : ByteArray), .int .i64 0, .int .i64 0, .string (⟨#[]⟩ : ByteArray), .int .i64 0, .int .i64 0, .int .i64 0]) ?_ 1 _ rfl; refine blk_put (cs := #[.string (⟨#[]⟩ : ByteArray), .string (⟨#[]⟩ : ByteArray), .string (⟨#[]⟩ : ByteArray), .int .i64 0, .int .i64 0, .string (⟨#[]⟩ : ByteArray), .int .i64 0, .int .i64 0, .int .i64 0]) ?_ 0 _ rfl; (with_reducible repeat (first | refine blk_drewN ?_ _ | refine blk_drew ?_ | refine blk_alloc ?_ _)); exact BK116.out⟩
 have n4_ : Aside0 (Below w.heap.size w (((((((((w9.setCell ⟨gb116, 0, none⟩ (.string (⟨#[88, 50]⟩ : ByteArray))).setCell ⟨gb116, 1, none⟩ (.string (⟨#[66, 66, 66]⟩ : ByteArray))).setCell ⟨gb116, 2, none⟩ (.string (⟨#[65, 65, 65]⟩ : ByteArray))).setCell ⟨gb116, 3, none⟩ (.int .i64 10665)).setCell ⟨gb116, 4, none⟩ (.int .i64 10740)).setCell ⟨gb116, 5, none⟩ (.string (⟨#[98, 55, 51, 55]⟩ : ByteArray))).setCell ⟨gb116, 6, none⟩ (.int .i64 0)).setCell ⟨gb116, 7, none⟩ (.int .i64 0)).setCell ⟨gb116, 8, none⟩ (.int .i64 0))) := ⟨hbk⟩
 (try clear BK113)
 (try clear BK114)
 (try clear BK115)
 (try clear BK116)
 (try clear HB)
 generalize (((((((((w9.setCell ⟨gb116, 0, none⟩ (.string (⟨#[88, 50]⟩ : ByteArray))).setCell ⟨gb116, 1, none⟩ (.string (⟨#[66, 66, 66]⟩ : ByteArray))).setCell ⟨gb116, 2, none⟩ (.string (⟨#[65, 65, 65]⟩ : ByteArray))).setCell ⟨gb116, 3, none⟩ (.int .i64 10665)).setCell ⟨gb116, 4, none⟩ (.int .i64 10740)).setCell ⟨gb116, 5, none⟩ (.string (⟨#[98, 55, 51, 55]⟩ : ByteArray))).setCell ⟨gb116, 6, none⟩ (.int .i64 0)).setCell ⟨gb116, 7, none⟩ (.int .i64 0)).setCell ⟨gb116, 8, none⟩ (.int .i64 0)) = w14 at n0_ n1_ n2_ n3_ n4_ ⊢
 have BK113 := n0_
 have BK114 := n1_
 have BK115 := n2_
 have BK116 := n3_
 have HB := n4_
 clear n0_ n1_ n2_ n3_ n4_
 replace BK113 := Aside0.mk (blk_drew BK113.out)
 replace BK114 := Aside0.mk (blk_drew BK114.out)
 replace BK115 := Aside0.mk (blk_drew BK115.out)
 replace BK116 := Aside0.mk (blk_drew BK116.out)
 replace HB := Aside0.mk (below_drew1 HB.out)
 refine start_ (n := 9) (S := fun w' => True) (ds := []) #[false, false, false, false, false, false, false, false, false] (by kernel_rfl) rfl rfl trivial (fun hHeld => ?_); refine with_tabW pairinglaw15_example.tab3 pairinglaw15_example.bits3 (fun HT_ HW_ => ?_)
 generalize w14.drew = w15 at BK113 BK114 BK115 BK116 HB hHeld ⊢
 refine inv_at [0, 1, 2, 3, 4, 5, 6, 7, 8] (fun a0_ b a w' => ∃ (v118 : Value) (v121 : Value) (v124 : Value) (m5_ : Value), a = putSel a0_ b [(0, 6, v118), (1, 7, v121), (2, 8, .agg #[.string (⟨#[88, 49]⟩ : ByteArray), .string (⟨#[65, 65, 65]⟩ : ByteArray), .string (⟨#[66, 66, 66]⟩ : ByteArray), .int .i64 10560, .int .i64 10620, .string (⟨#[98, 55, 51, 55]⟩ : ByteArray), .int .i64 0, .int .i64 0, .int .i64 0]), (3, 9, .agg #[.string (⟨#[88, 50]⟩ : ByteArray), .string (⟨#[66, 66, 66]⟩ : ByteArray), .string (⟨#[65, 65, 65]⟩ : ByteArray), .int .i64 10665, .int .i64 10740, .string (⟨#[98, 55, 51, 55]⟩ : ByteArray), .int .i64 0, .int .i64 0, .int .i64 0]), (4, 10, v124), (5, 11, m5_), (6, 12, .agg #[.int .i64 60, .int .i64 30, .int .i64 40, .int .i64 1440, .int .i64 2880, .int .i64 0, .int .i64 0, .slice none 0 0, .slice none 0 0, .slice none 0 0, .slice none 0 0, .slice none 0 0, .slice none 0 0, .int .i64 0])] ∧ (b 7 = false → w'.heap[gb113]? = some (.cells #[.slice none 0 0, .slice none 0 0, .slice none 0 0] 32 (0, 0))) ∧ (b 8 = false → w'.heap[gb114]? = some (.cells #[.int .i64 0, .int .i64 0, .int .i64 0, .int .i64 0, .int .i64 0, .int .i64 0, .int .i64 0, .slice none 0 0, .slice none 0 0, .slice none 0 0, .slice none 0 0, .slice none 0 0, .slice none 0 0, .int .i64 0] 40 (0, 0))) ∧ (w'.heap[gb115]? = some (.cells #[.string (⟨#[88, 49]⟩ : ByteArray), .string (⟨#[65, 65, 65]⟩ : ByteArray), .string (⟨#[66, 66, 66]⟩ : ByteArray), .int .i64 10560, .int .i64 10620, .string (⟨#[98, 55, 51, 55]⟩ : ByteArray), .int .i64 0, .int .i64 0, .int .i64 0] 73 (0, 0))) ∧ (w'.heap[gb116]? = some (.cells #[.string (⟨#[88, 50]⟩ : ByteArray), .string (⟨#[66, 66, 66]⟩ : ByteArray), .string (⟨#[65, 65, 65]⟩ : ByteArray), .int .i64 10665, .int .i64 10740, .string (⟨#[98, 55, 51, 55]⟩ : ByteArray), .int .i64 0, .int .i64 0, .int .i64 0] 73 (0, 0))) ∧ (Below w.heap.size w w') ∧ (b 0 = true → Kd.N k83 83 w' w.heap.size (fun k_ => (w.heap.size ≤ k_) ∧ k_ ≠ gb113 ∧ k_ ≠ gb114 ∧ k_ ≠ gb115 ∧ k_ ≠ gb116) v118 t117) ∧ (b 1 = true → Kd.R k86 86 w' w.heap.size (fun k_ => (w.heap.size ≤ k_)) v121 t120) ∧ (b 4 = true → Kd.R k73 73 w' w.heap.size (fun k_ => (w.heap.size ≤ k_) ∧ k_ ≠ gb115 ∧ k_ ≠ gb116) v124 y123) ∧ (b 7 = true → w'.heap[gb113]? = some (.cells #[v118, v121, v124] 32 (0, 0))) ∧ (b 8 = true → w'.heap[gb114]? = some (.cells #[.int .i64 60, .int .i64 30, .int .i64 40, .int .i64 1440, .int .i64 2880, .int .i64 0, .int .i64 0, .slice none 0 0, .slice none 0 0, .slice none 0 0, .slice none 0 0, .slice none 0 0, .slice none 0 0, .int .i64 0] 40 (0, 0))) ∧ (b 5 = true → (m5_ : Value) = .agg #[v118, v121, v124])) HT_.out HW_.out (by kernel_rfl) (by kernel_rfl) ?_ ?_ ?_
 ·exact ⟨.bool false, .bool false, .bool false, .bool false, by simp only [putSel, Bool.false_eq_true, if_false], fun _ => BK113.out, fun _ => BK114.out, BK115.out, BK116.out, HB.out, fun h_ => absurd h_ (by decide), fun h_ => absurd h_ (by decide), fun h_ => absurd h_ (by decide), fun h_ => absurd h_ (by decide), fun h_ => absurd h_ (by decide), fun h_ => absurd h_ (by decide)⟩
 ·skip
  clear BK113 BK114 BK115 BK116 HB
  refine steps_cons ?_ ?_
  ·rintro b a w' ⟨v118, v121, v124, m5_, ha, Q_BK113, Q_BK114, Q_BK115, Q_BK116, Q_HB, Q_HO119, Q_HO122, Q_HO125, Q_BK113_e7, Q_BK114_e8, Q_X5_⟩ hb_ hon hoff
   refine ⟨_, rfl, fun K hK => ?_⟩
   replace ha := Aside0.mk ha
   have BK113 := Aside0.mk (Q_BK113 (hoff 7 (by kernel_rfl)))
   have BK114 := Aside0.mk (Q_BK114 (hoff 8 (by kernel_rfl)))
   have BK115 := Aside0.mk Q_BK115
   have BK116 := Aside0.mk Q_BK116
   have HB := Aside0.mk Q_HB
   refine goes_ Tryz.func45 (by kernel_rfl) rfl #[] (by rfl) rfl rfl (by first | (simp only [List.map_toArray, List.map_cons, List.map_nil, Act.eval, Array.getD_eq_getD_getElem?, Option.getD_some]; done) | (simp only [List.map_toArray, List.map_cons, List.map_nil, Act.eval, Array.getD_eq_getD_getElem?, Option.getD_some]; rfl)) ?_
   with_reducible refine (pairingbase_Zones.calls  t117 _ A1.out).mono ?_
   rintro e w16 ⟨v118, rfl, ho0, hb⟩
   refine ⟨_, rfl, ?_⟩
   have n0_ := Aside0.mk (Kd.N_lower (Kd.N_mono (ok' := fun k_ => (w.heap.size ≤ k_) ∧ k_ ≠ gb113 ∧ k_ ≠ gb114 ∧ k_ ≠ gb115 ∧ k_ ≠ gb116) ho0 (fun k_ hk_ => ⟨(Nat.le_trans (below_size hbk) hk_), (Kd.freshB (bk BK113.out) k_ hk_), (Kd.freshB (bk BK114.out) k_ hk_), (Kd.freshB (bk BK115.out) k_ hk_), (Kd.freshB (bk BK116.out) k_ hk_)⟩)) (below_size hbk))
   have n1_ := Aside0.mk (blk_belowB BK113.out hb)
   have n2_ := Aside0.mk (blk_belowB BK114.out hb)
   have n3_ := Aside0.mk (blk_belowB BK115.out hb)
   have n4_ := Aside0.mk (blk_belowB BK116.out hb)
   have n5_ := Aside0.mk (below_step hbk hb)
   have z_HO125 := fun (h0_ : b 4 = true) => (show Kd.R k73 73 w16 w.heap.size (fun k_ => (w.heap.size ≤ k_) ∧ k_ ≠ gb115 ∧ k_ ≠ gb116) v124 y123 from by first | exact (Kd.R_below (by (with_reducible repeat (first | apply Kd.R_alloc | apply Kd.R_drewN | apply Kd.R_drew)); exact (Q_HO125 h0_)) hb) | exact Kd.R_mono (Kd.R_below (by (with_reducible repeat (first | apply Kd.R_alloc | apply Kd.R_drewN | apply Kd.R_drew)); exact (Q_HO125 h0_)) hb) (fun _ h_ => by first | trivial | exact h_ | exact h_.1))
   clear BK113
   clear BK114
   clear BK115
   clear BK116
   clear HB
   have HO119 := n0_
   have BK113 := n1_
   have BK114 := n2_
   have BK115 := n3_
   have BK116 := n4_
   have HB := n5_
   clear n0_ n1_ n2_ n3_ n4_ n5_
   (try clear hb)
   (try clear hb2)
   (try clear hk)
   (try clear hi)
   (try clear ho0)
   refine hK.out _ _ ⟨v118, v121, v124, m5_, (by rw [ha.out]; exact putSel_upk 0 hb_ rfl rfl rfl), fun _ => (bk BK113.out), fun _ => (bk BK114.out), (bk BK115.out), (bk BK116.out), hbk, fun _ => (by (with_reducible repeat (first | apply Kd.N_alloc | apply Kd.N_drewN | apply Kd.N_drew)); exact HO119.out), fun h0_ => absurd ((hoff 1 (by kernel_rfl)).symm.trans h0_) (by decide), z_HO125, fun h0_ => absurd ((hoff 7 (by kernel_rfl)).symm.trans h0_) (by decide), fun h0_ => absurd ((hoff 8 (by kernel_rfl)).symm.trans h0_) (by decide), fun h0_ => absurd ((hoff 5 (by kernel_rfl)).symm.trans h0_) (by decide)⟩
  refine steps_cons ?_ ?_
  ·rintro b a w' ⟨v118, v121, v124, m5_, ha, Q_BK113, Q_BK114, Q_BK115, Q_BK116, Q_HB, Q_HO119, Q_HO122, Q_HO125, Q_BK113_e7, Q_BK114_e8, Q_X5_⟩ hb_ hon hoff
   refine ⟨_, rfl, fun K hK => ?_⟩
   replace ha := Aside0.mk ha
   have BK113 := Aside0.mk (Q_BK113 (hoff 7 (by kernel_rfl)))
   have BK114 := Aside0.mk (Q_BK114 (hoff 8 (by kernel_rfl)))
   have BK115 := Aside0.mk Q_BK115
   have BK116 := Aside0.mk Q_BK116
   have HB := Aside0.mk Q_HB
   have HO119 := Aside0.mk (Q_HO119 (hon 0 (by kernel_rfl)))
   refine goes_ Tryz.func46 (by kernel_rfl) rfl #[] (by rfl) rfl rfl (by first | (simp only [List.map_toArray, List.map_cons, List.map_nil, Act.eval, Array.getD_eq_getD_getElem?, Option.getD_some]; done) | (simp only [List.map_toArray, List.map_cons, List.map_nil, Act.eval, Array.getD_eq_getD_getElem?, Option.getD_some]; rfl)) ?_
   with_reducible refine (pairingbase_Airports.calls  t120 _ A2.out).mono ?_
   rintro e w18 ⟨v121, rfl, ho0, hb⟩
   refine ⟨_, rfl, ?_⟩
   have n0_ := Aside0.mk (Kd.N_elder' (by (with_reducible repeat (first | apply Kd.N_alloc | apply Kd.N_drewN | apply Kd.N_drew)); exact HO119.out) (Kd.R_base ho0) hb)
   have n1_ := Aside0.mk (Kd.R_lower (Kd.R_newM (M := fun k_ => (w.heap.size ≤ k_)) ho0 (below_size hbk) (fun k_ h_ => h_)) (below_size hbk))
   have n2_ := Aside0.mk (blk_belowB BK113.out hb)
   have n3_ := Aside0.mk (blk_belowB BK114.out hb)
   have n4_ := Aside0.mk (blk_belowB BK115.out hb)
   have n5_ := Aside0.mk (blk_belowB BK116.out hb)
   have n6_ := Aside0.mk (below_step hbk hb)
   have z_HO125 := fun (h0_ : b 4 = true) => (show Kd.R k73 73 w18 w.heap.size (fun k_ => (w.heap.size ≤ k_) ∧ k_ ≠ gb115 ∧ k_ ≠ gb116) v124 y123 from by first | exact (Kd.R_below (by (with_reducible repeat (first | apply Kd.R_alloc | apply Kd.R_drewN | apply Kd.R_drew)); exact (Q_HO125 h0_)) hb) | exact Kd.R_mono (Kd.R_below (by (with_reducible repeat (first | apply Kd.R_alloc | apply Kd.R_drewN | apply Kd.R_drew)); exact (Q_HO125 h0_)) hb) (fun _ h_ => by first | trivial | exact h_ | exact h_.1))
   clear HO119
   clear BK113
   clear BK114
   clear BK115
   clear BK116
   clear HB
   have HO119 := n0_
   have HO122 := n1_
   have BK113 := n2_
   have BK114 := n3_
   have BK115 := n4_
   have BK116 := n5_
   have HB := n6_
   clear n0_ n1_ n2_ n3_ n4_ n5_ n6_
   (try clear hb)
   (try clear hb2)
   (try clear hk)
   (try clear hi)
   (try clear ho0)
   refine hK.out _ _ ⟨v118, v121, v124, m5_, (by rw [ha.out]; exact putSel_upk 1 hb_ rfl rfl rfl), fun _ => (bk BK113.out), fun _ => (bk BK114.out), (bk BK115.out), (bk BK116.out), hbk, fun _ => (by (with_reducible repeat (first | apply Kd.N_alloc | apply Kd.N_drewN | apply Kd.N_drew)); exact Kd.N_mono HO119.out (fun _ hk => (by first | exact ⟨hk.1.1, ⟨hk.2, ⟨hk.1.2.1, ⟨hk.1.2.2.1, ⟨hk.1.2.2.2.1, hk.1.2.2.2.2⟩⟩⟩⟩⟩ | grind))), fun _ => (by (with_reducible repeat (first | apply Kd.R_alloc | apply Kd.R_drewN | apply Kd.R_drew)); exact Kd.R_mono HO122.out (fun _ hk => (by first | exact hk.1 | grind))), z_HO125, fun h0_ => absurd ((hoff 7 (by kernel_rfl)).symm.trans h0_) (by decide), fun h0_ => absurd ((hoff 8 (by kernel_rfl)).symm.trans h0_) (by decide), fun h0_ => absurd ((hoff 5 (by kernel_rfl)).symm.trans h0_) (by decide)⟩
  refine steps_cons ?_ ?_
  ·rintro b a w' ⟨v118, v121, v124, m5_, ha, Q_BK113, Q_BK114, Q_BK115, Q_BK116, Q_HB, Q_HO119, Q_HO122, Q_HO125, Q_BK113_e7, Q_BK114_e8, Q_X5_⟩ hb_ hon hoff
   refine ⟨_, rfl, fun K hK => ?_⟩
   have e2 : a.tmps[2]? = some (.pointer (some ⟨gb115, 0, none⟩)) := by rw [ha]; exact (putSel_off rfl).trans rfl
   replace ha := Aside0.mk ha
   have BK113 := Aside0.mk (Q_BK113 (hoff 7 (by kernel_rfl)))
   have BK114 := Aside0.mk (Q_BK114 (hoff 8 (by kernel_rfl)))
   have BK115 := Aside0.mk Q_BK115
   have BK116 := Aside0.mk Q_BK116
   have HB := Aside0.mk Q_HB
   have hc0_ : w'.cell? ⟨gb115, 0, none⟩ = some (.string (⟨#[88, 49]⟩ : ByteArray)) := (blk_cell BK115.out 0).trans rfl
   have hc1_ : w'.cell? ⟨gb115, 1, none⟩ = some (.string (⟨#[65, 65, 65]⟩ : ByteArray)) := (blk_cell BK115.out 1).trans rfl
   have hc2_ : w'.cell? ⟨gb115, 2, none⟩ = some (.string (⟨#[66, 66, 66]⟩ : ByteArray)) := (blk_cell BK115.out 2).trans rfl
   have hc3_ : w'.cell? ⟨gb115, 3, none⟩ = some (.int .i64 10560) := (blk_cell BK115.out 3).trans rfl
   have hc4_ : w'.cell? ⟨gb115, 4, none⟩ = some (.int .i64 10620) := (blk_cell BK115.out 4).trans rfl
   have hc5_ : w'.cell? ⟨gb115, 5, none⟩ = some (.string (⟨#[98, 55, 51, 55]⟩ : ByteArray)) := (blk_cell BK115.out 5).trans rfl
   have hc6_ : w'.cell? ⟨gb115, 6, none⟩ = some (.int .i64 0) := (blk_cell BK115.out 6).trans rfl
   have hc7_ : w'.cell? ⟨gb115, 7, none⟩ = some (.int .i64 0) := (blk_cell BK115.out 7).trans rfl
   have hc8_ : w'.cell? ⟨gb115, 8, none⟩ = some (.int .i64 0) := (blk_cell BK115.out 8).trans rfl
   refine value_ (w1 := w') (v := .agg #[.string (⟨#[88, 49]⟩ : ByteArray), .string (⟨#[65, 65, 65]⟩ : ByteArray), .string (⟨#[66, 66, 66]⟩ : ByteArray), .int .i64 10560, .int .i64 10620, .string (⟨#[98, 55, 51, 55]⟩ : ByteArray), .int .i64 0, .int .i64 0, .int .i64 0]) (by rfl) rfl ?_ ?_
   ·go_simp
    (try simp only [i64_w])
    try rfl
   refine hK.out _ _ ⟨v118, v121, v124, m5_, (by rw [ha.out]; exact putSel_upk 2 hb_ rfl rfl rfl), Q_BK113, Q_BK114, Q_BK115, Q_BK116, Q_HB, Q_HO119, Q_HO122, fun h0_ => absurd ((hoff 4 (by kernel_rfl)).symm.trans h0_) (by decide), fun h0_ => absurd ((hoff 7 (by kernel_rfl)).symm.trans h0_) (by decide), fun h0_ => absurd ((hoff 8 (by kernel_rfl)).symm.trans h0_) (by decide), fun h0_ => absurd ((hoff 5 (by kernel_rfl)).symm.trans h0_) (by decide)⟩
  refine steps_cons ?_ ?_
  ·rintro b a w' ⟨v118, v121, v124, m5_, ha, Q_BK113, Q_BK114, Q_BK115, Q_BK116, Q_HB, Q_HO119, Q_HO122, Q_HO125, Q_BK113_e7, Q_BK114_e8, Q_X5_⟩ hb_ hon hoff
   refine ⟨_, rfl, fun K hK => ?_⟩
   have e3 : a.tmps[3]? = some (.pointer (some ⟨gb116, 0, none⟩)) := by rw [ha]; exact (putSel_off rfl).trans rfl
   replace ha := Aside0.mk ha
   have BK113 := Aside0.mk (Q_BK113 (hoff 7 (by kernel_rfl)))
   have BK114 := Aside0.mk (Q_BK114 (hoff 8 (by kernel_rfl)))
   have BK115 := Aside0.mk Q_BK115
   have BK116 := Aside0.mk Q_BK116
   have HB := Aside0.mk Q_HB
   have hc0_ : w'.cell? ⟨gb116, 0, none⟩ = some (.string (⟨#[88, 50]⟩ : ByteArray)) := (blk_cell BK116.out 0).trans rfl
   have hc1_ : w'.cell? ⟨gb116, 1, none⟩ = some (.string (⟨#[66, 66, 66]⟩ : ByteArray)) := (blk_cell BK116.out 1).trans rfl
   have hc2_ : w'.cell? ⟨gb116, 2, none⟩ = some (.string (⟨#[65, 65, 65]⟩ : ByteArray)) := (blk_cell BK116.out 2).trans rfl
   have hc3_ : w'.cell? ⟨gb116, 3, none⟩ = some (.int .i64 10665) := (blk_cell BK116.out 3).trans rfl
   have hc4_ : w'.cell? ⟨gb116, 4, none⟩ = some (.int .i64 10740) := (blk_cell BK116.out 4).trans rfl
   have hc5_ : w'.cell? ⟨gb116, 5, none⟩ = some (.string (⟨#[98, 55, 51, 55]⟩ : ByteArray)) := (blk_cell BK116.out 5).trans rfl
   have hc6_ : w'.cell? ⟨gb116, 6, none⟩ = some (.int .i64 0) := (blk_cell BK116.out 6).trans rfl
   have hc7_ : w'.cell? ⟨gb116, 7, none⟩ = some (.int .i64 0) := (blk_cell BK116.out 7).trans rfl
   have hc8_ : w'.cell? ⟨gb116, 8, none⟩ = some (.int .i64 0) := (blk_cell BK116.out 8).trans rfl
   refine value_ (w1 := w') (v := .agg #[.string (⟨#[88, 50]⟩ : ByteArray), .string (⟨#[66, 66, 66]⟩ : ByteArray), .string (⟨#[65, 65, 65]⟩ : ByteArray), .int .i64 10665, .int .i64 10740, .string (⟨#[98, 55, 51, 55]⟩ : ByteArray), .int .i64 0, .int .i64 0, .int .i64 0]) (by rfl) rfl ?_ ?_
   ·go_simp
    (try simp only [i64_w])
    try rfl
   refine hK.out _ _ ⟨v118, v121, v124, m5_, (by rw [ha.out]; exact putSel_upk 3 hb_ rfl rfl rfl), Q_BK113, Q_BK114, Q_BK115, Q_BK116, Q_HB, Q_HO119, Q_HO122, fun h0_ => absurd ((hoff 4 (by kernel_rfl)).symm.trans h0_) (by decide), fun h0_ => absurd ((hoff 7 (by kernel_rfl)).symm.trans h0_) (by decide), fun h0_ => absurd ((hoff 8 (by kernel_rfl)).symm.trans h0_) (by decide), fun h0_ => absurd ((hoff 5 (by kernel_rfl)).symm.trans h0_) (by decide)⟩
  refine steps_cons ?_ ?_
  ·rintro b a w' ⟨v118, v121, v124, m5_, ha, Q_BK113, Q_BK114, Q_BK115, Q_BK116, Q_HB, Q_HO119, Q_HO122, Q_HO125, Q_BK113_e7, Q_BK114_e8, Q_X5_⟩ hb_ hon hoff
   refine ⟨_, rfl, fun K hK => ?_⟩
   have e8 : a.tmps[8]? = some (.agg #[.string (⟨#[88, 49]⟩ : ByteArray), .string (⟨#[65, 65, 65]⟩ : ByteArray), .string (⟨#[66, 66, 66]⟩ : ByteArray), .int .i64 10560, .int .i64 10620, .string (⟨#[98, 55, 51, 55]⟩ : ByteArray), .int .i64 0, .int .i64 0, .int .i64 0]) := by rw [ha]; exact putSel_on (e := (2, 8, .agg #[.string (⟨#[88, 49]⟩ : ByteArray), .string (⟨#[65, 65, 65]⟩ : ByteArray), .string (⟨#[66, 66, 66]⟩ : ByteArray), .int .i64 10560, .int .i64 10620, .string (⟨#[98, 55, 51, 55]⟩ : ByteArray), .int .i64 0, .int .i64 0, .int .i64 0])) 2 rfl rfl (hon 2 (by kernel_rfl)) rfl
   have e9 : a.tmps[9]? = some (.agg #[.string (⟨#[88, 50]⟩ : ByteArray), .string (⟨#[66, 66, 66]⟩ : ByteArray), .string (⟨#[65, 65, 65]⟩ : ByteArray), .int .i64 10665, .int .i64 10740, .string (⟨#[98, 55, 51, 55]⟩ : ByteArray), .int .i64 0, .int .i64 0, .int .i64 0]) := by rw [ha]; exact putSel_on (e := (3, 9, .agg #[.string (⟨#[88, 50]⟩ : ByteArray), .string (⟨#[66, 66, 66]⟩ : ByteArray), .string (⟨#[65, 65, 65]⟩ : ByteArray), .int .i64 10665, .int .i64 10740, .string (⟨#[98, 55, 51, 55]⟩ : ByteArray), .int .i64 0, .int .i64 0, .int .i64 0])) 3 rfl rfl (hon 3 (by kernel_rfl)) rfl
   replace ha := Aside0.mk ha
   have BK113 := Aside0.mk (Q_BK113 (hoff 7 (by kernel_rfl)))
   have BK114 := Aside0.mk (Q_BK114 (hoff 8 (by kernel_rfl)))
   have BK115 := Aside0.mk Q_BK115
   have BK116 := Aside0.mk Q_BK116
   have HB := Aside0.mk Q_HB
   refine Kd.R_lit_step k73 _ 73 ?hg (N := 10) ?hd (xs := ([(⟨(⟨#[88, 49]⟩ : ByteArray), (⟨#[65, 65, 65]⟩ : ByteArray), (⟨#[66, 66, 66]⟩ : ByteArray), 10560, 10620, (⟨#[98, 55, 51, 55]⟩ : ByteArray), (⟨0, 0, 0⟩ : S71)⟩ : S73), (⟨(⟨#[88, 50]⟩ : ByteArray), (⟨#[66, 66, 66]⟩ : ByteArray), (⟨#[65, 65, 65]⟩ : ByteArray), 10665, 10740, (⟨#[98, 55, 51, 55]⟩ : ByteArray), (⟨0, 0, 0⟩ : S71)⟩ : S73)] : List (S73))) (inner := [.string (⟨#[88, 49]⟩ : ByteArray), .string (⟨#[65, 65, 65]⟩ : ByteArray), .string (⟨#[66, 66, 66]⟩ : ByteArray), .int .i64 10560, .int .i64 10620, .string (⟨#[98, 55, 51, 55]⟩ : ByteArray), .int .i64 0, .int .i64 0, .int .i64 0, .string (⟨#[88, 50]⟩ : ByteArray), .string (⟨#[66, 66, 66]⟩ : ByteArray), .string (⟨#[65, 65, 65]⟩ : ByteArray), .int .i64 10665, .int .i64 10740, .string (⟨#[98, 55, 51, 55]⟩ : ByteArray), .int .i64 0, .int .i64 0, .int .i64 0]) (ok := fun _ => True) (okp := fun _ => True) ?hr ?hp (fun _ hk => (by first | exact hk | grind)) trivial (Below.refl _ _) (Nat.le_refl _) (by simp) ?_; (case hd => rfl); (case hg => rfl); (case hr => first | (go_simp; done) | (go_simp; rfl)); (case hp => exact (Reps.c9 (show Kd.M k73 _ _ _ (⟨(⟨#[88, 49]⟩ : ByteArray), (⟨#[65, 65, 65]⟩ : ByteArray), (⟨#[66, 66, 66]⟩ : ByteArray), 10560, 10620, (⟨#[98, 55, 51, 55]⟩ : ByteArray), (⟨0, 0, 0⟩ : S71)⟩ : S73) [.string (⟨#[88, 49]⟩ : ByteArray), .string (⟨#[65, 65, 65]⟩ : ByteArray), .string (⟨#[66, 66, 66]⟩ : ByteArray), .int .i64 10560, .int .i64 10620, .string (⟨#[98, 55, 51, 55]⟩ : ByteArray), .int .i64 0, .int .i64 0, .int .i64 0] from (k73_mkM _ _ _ (⟨(⟨#[88, 49]⟩ : ByteArray), (⟨#[65, 65, 65]⟩ : ByteArray), (⟨#[66, 66, 66]⟩ : ByteArray), 10560, 10620, (⟨#[98, 55, 51, 55]⟩ : ByteArray), (⟨0, 0, 0⟩ : S71)⟩ : S73) )) (Reps.c9 (show Kd.M k73 _ _ _ (⟨(⟨#[88, 50]⟩ : ByteArray), (⟨#[66, 66, 66]⟩ : ByteArray), (⟨#[65, 65, 65]⟩ : ByteArray), 10665, 10740, (⟨#[98, 55, 51, 55]⟩ : ByteArray), (⟨0, 0, 0⟩ : S71)⟩ : S73) [.string (⟨#[88, 50]⟩ : ByteArray), .string (⟨#[66, 66, 66]⟩ : ByteArray), .string (⟨#[65, 65, 65]⟩ : ByteArray), .int .i64 10665, .int .i64 10740, .string (⟨#[98, 55, 51, 55]⟩ : ByteArray), .int .i64 0, .int .i64 0, .int .i64 0] from (k73_mkM _ _ _ (⟨(⟨#[88, 50]⟩ : ByteArray), (⟨#[66, 66, 66]⟩ : ByteArray), (⟨#[65, 65, 65]⟩ : ByteArray), 10665, 10740, (⟨#[98, 55, 51, 55]⟩ : ByteArray), (⟨0, 0, 0⟩ : S71)⟩ : S73) )) (Reps.none _ _))))
   intro v124 w16 ho17 hb hg_ hnew_
   clear hg_ hnew_
   (first | rw [← Ny123.out] at ho17 | (simp only [Int.reduceToNat] at ho17; rw [← Ny123.out] at ho17))
   have n0_ := Aside0.mk (Kd.R_lower (Kd.R_newB (Kd.R_newB (Kd.R_newM (M := fun k_ => (w.heap.size ≤ k_)) ho17 (below_size hbk) (fun k_ h_ => h_)) (bk BK115.out)) (bk BK116.out)) (below_size hbk))
   have n1_ := Aside0.mk (blk_belowB BK113.out hb)
   have n2_ := Aside0.mk (blk_belowB BK114.out hb)
   have n3_ := Aside0.mk (blk_belowB BK115.out hb)
   have n4_ := Aside0.mk (blk_belowB BK116.out hb)
   have n5_ := Aside0.mk (below_step hbk hb)
   have z_HO119 := fun (h0_ : b 0 = true) => (show Kd.N k83 83 w16 w.heap.size (fun k_ => (w.heap.size ≤ k_) ∧ k_ ≠ gb113 ∧ k_ ≠ gb114 ∧ k_ ≠ gb115 ∧ k_ ≠ gb116) v118 t117 from by first | exact (Kd.N_elder' (by (with_reducible repeat (first | apply Kd.N_alloc | apply Kd.N_drewN | apply Kd.N_drew)); exact (Q_HO119 h0_)) (Kd.R_base ho17) hb) | exact Kd.N_mono (Kd.N_elder' (by (with_reducible repeat (first | apply Kd.N_alloc | apply Kd.N_drewN | apply Kd.N_drew)); exact (Q_HO119 h0_)) (Kd.R_base ho17) hb) (fun _ h_ => by first | trivial | exact h_ | exact h_.1))
   have z_HO122 := fun (h0_ : b 1 = true) => (show Kd.R k86 86 w16 w.heap.size (fun k_ => (w.heap.size ≤ k_)) v121 t120 from by first | exact (Kd.R_below (by (with_reducible repeat (first | apply Kd.R_alloc | apply Kd.R_drewN | apply Kd.R_drew)); exact (Q_HO122 h0_)) hb) | exact Kd.R_mono (Kd.R_below (by (with_reducible repeat (first | apply Kd.R_alloc | apply Kd.R_drewN | apply Kd.R_drew)); exact (Q_HO122 h0_)) hb) (fun _ h_ => by first | trivial | exact h_ | exact h_.1))
   clear BK113
   clear BK114
   clear BK115
   clear BK116
   clear HB
   have HO125 := n0_
   have BK113 := n1_
   have BK114 := n2_
   have BK115 := n3_
   have BK116 := n4_
   have HB := n5_
   clear n0_ n1_ n2_ n3_ n4_ n5_
   clear hb ho17
   refine hK.out _ _ ⟨v118, v121, v124, m5_, (by rw [ha.out]; exact putSel_upk 4 hb_ rfl rfl rfl), fun _ => (bk BK113.out), fun _ => (bk BK114.out), (bk BK115.out), (bk BK116.out), hbk, z_HO119, z_HO122, fun _ => (by (with_reducible repeat (first | apply Kd.R_alloc | apply Kd.R_drewN | apply Kd.R_drew)); exact Kd.R_mono HO125.out (fun _ hk => (by first | exact ⟨hk.1.1.1, ⟨hk.1.2, hk.2⟩⟩ | grind))), fun h0_ => absurd ((hoff 7 (by kernel_rfl)).symm.trans h0_) (by decide), fun h0_ => absurd ((hoff 8 (by kernel_rfl)).symm.trans h0_) (by decide), fun h0_ => absurd ((hoff 5 (by kernel_rfl)).symm.trans h0_) (by decide)⟩
  refine steps_cons ?_ ?_
  ·rintro b a w' ⟨v118, v121, v124, m5_, ha, Q_BK113, Q_BK114, Q_BK115, Q_BK116, Q_HB, Q_HO119, Q_HO122, Q_HO125, Q_BK113_e7, Q_BK114_e8, Q_X5_⟩ hb_ hon hoff
   refine ⟨_, rfl, fun K hK => ?_⟩
   have e6 : a.tmps[6]? = some (v118) := by rw [ha]; exact putSel_on (e := (0, 6, v118)) 0 rfl rfl (hon 0 (by kernel_rfl)) rfl
   have e7 : a.tmps[7]? = some (v121) := by rw [ha]; exact putSel_on (e := (1, 7, v121)) 1 rfl rfl (hon 1 (by kernel_rfl)) rfl
   have e10 : a.tmps[10]? = some (v124) := by rw [ha]; exact putSel_on (e := (4, 10, v124)) 4 rfl rfl (hon 4 (by kernel_rfl)) rfl
   replace ha := Aside0.mk ha
   have BK113 := Aside0.mk (Q_BK113 (hoff 7 (by kernel_rfl)))
   have BK114 := Aside0.mk (Q_BK114 (hoff 8 (by kernel_rfl)))
   have BK115 := Aside0.mk Q_BK115
   have BK116 := Aside0.mk Q_BK116
   have HB := Aside0.mk Q_HB
   have HO119 := Aside0.mk (Q_HO119 (hon 0 (by kernel_rfl)))
   have HO122 := Aside0.mk (Q_HO122 (hon 1 (by kernel_rfl)))
   have HO125 := Aside0.mk (Q_HO125 (hon 4 (by kernel_rfl)))
   obtain ⟨Ao5_0, co5_0, eo_⟩ := Kd.N_slice HO119.out
   subst eo_
   obtain ⟨Ao5_1, co5_1, eo_⟩ := Kd.R_slice HO122.out
   subst eo_
   obtain ⟨Ao5_2, co5_2, eo_⟩ := Kd.R_slice HO125.out
   subst eo_
   refine value_ (w1 := w') (v := .agg #[.slice Ao5_0 t117.length co5_0, .slice Ao5_1 t120.length co5_1, .slice Ao5_2 y123.length co5_2]) (by rfl) rfl ?_ ?_
   ·go_simp
    (try simp only [i64_w])
    try rfl
   refine hK.out _ _ ⟨.slice Ao5_0 t117.length co5_0, .slice Ao5_1 t120.length co5_1, .slice Ao5_2 y123.length co5_2, (.agg #[.slice Ao5_0 t117.length co5_0, .slice Ao5_1 t120.length co5_1, .slice Ao5_2 y123.length co5_2]), (by rw [ha.out]; exact putSel_upk 5 hb_ rfl rfl rfl), Q_BK113, Q_BK114, Q_BK115, Q_BK116, Q_HB, Q_HO119, Q_HO122, Q_HO125, fun h0_ => absurd ((hoff 7 (by kernel_rfl)).symm.trans h0_) (by decide), fun h0_ => absurd ((hoff 8 (by kernel_rfl)).symm.trans h0_) (by decide), fun _ => rfl⟩
  refine steps_cons ?_ ?_
  ·rintro b a w' ⟨v118, v121, v124, m5_, ha, Q_BK113, Q_BK114, Q_BK115, Q_BK116, Q_HB, Q_HO119, Q_HO122, Q_HO125, Q_BK113_e7, Q_BK114_e8, Q_X5_⟩ hb_ hon hoff
   refine ⟨_, rfl, fun K hK => ?_⟩
   replace ha := Aside0.mk ha
   have BK114 := Aside0.mk (Q_BK114 (hoff 8 (by kernel_rfl)))
   have BK115 := Aside0.mk Q_BK115
   have BK116 := Aside0.mk Q_BK116
   have HB := Aside0.mk Q_HB
   refine value_ (w1 := w') (v := .agg #[.int .i64 60, .int .i64 30, .int .i64 40, .int .i64 1440, .int .i64 2880, .int .i64 0, .int .i64 0, .slice none 0 0, .slice none 0 0, .slice none 0 0, .slice none 0 0, .slice none 0 0, .slice none 0 0, .int .i64 0]) (by rfl) rfl ?_ ?_
   ·go_simp
    (try simp only [i64_w])
    try rfl
   refine hK.out _ _ ⟨v118, v121, v124, m5_, (by rw [ha.out]; exact putSel_upk 6 hb_ rfl rfl rfl), Q_BK113, Q_BK114, Q_BK115, Q_BK116, Q_HB, Q_HO119, Q_HO122, Q_HO125, Q_BK113_e7, fun h0_ => absurd ((hoff 8 (by kernel_rfl)).symm.trans h0_) (by decide), Q_X5_⟩
  refine steps_cons ?_ ?_
  ·rintro b a w' ⟨v118, v121, v124, m5_, ha, Q_BK113, Q_BK114, Q_BK115, Q_BK116, Q_HB, Q_HO119, Q_HO122, Q_HO125, Q_BK113_e7, Q_BK114_e8, Q_X5_⟩ hb_ hon hoff
   refine ⟨_, rfl, fun K hK => ?_⟩
   have e0 : a.tmps[0]? = some (.pointer (some ⟨gb113, 0, none⟩)) := by rw [ha]; exact (putSel_off rfl).trans rfl
   have e11 : a.tmps[11]? = some (m5_) := by rw [ha]; exact putSel_on (e := (5, 11, m5_)) 5 rfl rfl (hon 5 (by kernel_rfl)) rfl
   rw [Q_X5_ (hon 5 (by kernel_rfl))] at e11
   replace ha := Aside0.mk ha
   have BK113 := Aside0.mk (Q_BK113 hb_)
   have BK114 := Aside0.mk (Q_BK114 (hoff 8 (by kernel_rfl)))
   have BK115 := Aside0.mk Q_BK115
   have BK116 := Aside0.mk Q_BK116
   have HB := Aside0.mk Q_HB
   have HO119 := Aside0.mk (Q_HO119 (hon 0 (by kernel_rfl)))
   have HO122 := Aside0.mk (Q_HO122 (hon 1 (by kernel_rfl)))
   have HO125 := Aside0.mk (Q_HO125 (hon 4 (by kernel_rfl)))
   obtain ⟨Ao24, co24, eo24⟩ := Kd.R_slice HO125.out
   (first | subst eo24 | (injection eo24 with f1_ f2_ f3_; have f4_ := f1_.symm; have f5_ := f3_.symm; clear f1_ f2_ f3_; subst f4_; subst f5_))
   obtain ⟨Ao25, co25, eo25⟩ := Kd.R_slice HO122.out
   (first | subst eo25 | (injection eo25 with f1_ f2_ f3_; have f4_ := f1_.symm; have f5_ := f3_.symm; clear f1_ f2_ f3_; subst f4_; subst f5_))
   obtain ⟨Ao26, co26, eo26⟩ := Kd.N_slice HO119.out
   (first | subst eo26 | (injection eo26 with f1_ f2_ f3_; have f4_ := f1_.symm; have f5_ := f3_.symm; clear f1_ f2_ f3_; subst f4_; subst f5_))
   have hs27 : w'.cell? ⟨gb113, 0, none⟩ = some (.slice none 0 0) := (blk_cell BK113.out 0).trans rfl
   have hfs27 := blk_frozen BK113.out 0
   have hns27_1 := NB114_113.out
   have hns27_2 := NB115_113.out
   have hns27_3 := NB116_113.out
   have hms27_1 := NB113_114.out
   have hms27_2 := NB113_115.out
   have hms27_3 := NB113_116.out
   have hs28 : w'.cell? ⟨gb113, 1, none⟩ = some (.slice none 0 0) := (blk_cell BK113.out 1).trans rfl
   have hfs28 := blk_frozen BK113.out 1
   have hns28_1 := NB114_113.out
   have hns28_2 := NB115_113.out
   have hns28_3 := NB116_113.out
   have hms28_1 := NB113_114.out
   have hms28_2 := NB113_115.out
   have hms28_3 := NB113_116.out
   have hs29 : w'.cell? ⟨gb113, 2, none⟩ = some (.slice none 0 0) := (blk_cell BK113.out 2).trans rfl
   have hfs29 := blk_frozen BK113.out 2
   have hns29_1 := NB114_113.out
   have hns29_2 := NB115_113.out
   have hns29_3 := NB116_113.out
   have hms29_1 := NB113_114.out
   have hms29_2 := NB113_115.out
   have hms29_3 := NB113_116.out
   refine skip_ (w1 := ?_) (by rfl) rfl ?_ ?_
   rotate_left
   ·go_simp
    rfl
   refine hK.out _ _ ⟨.slice Ao26 t117.length co26, .slice Ao25 t120.length co25, .slice Ao24 y123.length co24, m5_, (by rw [ha.out]; exact putSel_none (v := undef) rfl), fun h0_ => absurd ((up_self b 7).symm.trans h0_) (by decide), fun _ => (by (with_reducible repeat (first | refine blk_drewN ?_ _ | refine blk_drew ?_ | refine blk_alloc ?_ _)); refine blk_far ?_ NB114_113.out _; refine blk_far ?_ NB114_113.out _; refine blk_far ?_ NB114_113.out _; (with_reducible repeat (first | refine blk_drewN ?_ _ | refine blk_drew ?_ | refine blk_alloc ?_ _)); exact BK114.out), (by (with_reducible repeat (first | refine blk_drewN ?_ _ | refine blk_drew ?_ | refine blk_alloc ?_ _)); refine blk_far ?_ NB115_113.out _; refine blk_far ?_ NB115_113.out _; refine blk_far ?_ NB115_113.out _; (with_reducible repeat (first | refine blk_drewN ?_ _ | refine blk_drew ?_ | refine blk_alloc ?_ _)); exact BK115.out), (by (with_reducible repeat (first | refine blk_drewN ?_ _ | refine blk_drew ?_ | refine blk_alloc ?_ _)); refine blk_far ?_ NB116_113.out _; refine blk_far ?_ NB116_113.out _; refine blk_far ?_ NB116_113.out _; (with_reducible repeat (first | refine blk_drewN ?_ _ | refine blk_drew ?_ | refine blk_alloc ?_ _)); exact BK116.out), hbk, fun _ => (by (with_reducible repeat (first | apply Kd.N_alloc | apply Kd.N_drewN | apply Kd.N_drew)); exact Kd.N_mono (Kd.N_far (p := ⟨gb113, 2, none⟩) (Kd.N_far (p := ⟨gb113, 1, none⟩) (Kd.N_far (p := ⟨gb113, 0, none⟩) (Kd.N_mono HO119.out (fun k_ hk => (⟨hk, by first | exact hk.2.2.2.1 | grind⟩ : _ ∧ k_ ≠ gb113))) (fun _ hk => hk.2) (.slice Ao26 t117.length co26)) (fun _ hk => hk.2) (.slice Ao25 t120.length co25)) (fun _ hk => hk.2) (.slice Ao24 y123.length co24)) (fun _ hk => (by first | exact ⟨hk.1.1, ⟨hk.1.2.1, ⟨hk.1.2.2.1, ⟨hk.1.2.2.2.1, ⟨hk.1.2.2.2.2.1, ⟨hk.1.2.2.2.2.2.1, hk.1.2.2.2.2.2.2⟩⟩⟩⟩⟩⟩ | grind))), fun _ => (by (with_reducible repeat (first | apply Kd.R_alloc | apply Kd.R_drewN | apply Kd.R_drew)); exact Kd.R_mono (Kd.R_far (p := ⟨gb113, 2, none⟩) (Kd.R_far (p := ⟨gb113, 1, none⟩) (Kd.R_far (p := ⟨gb113, 0, none⟩) (Kd.R_types HO122.out BK113.out (by decide)) (fun _ hk => hk.2) (.slice Ao26 t117.length co26)) (fun _ hk => hk.2) (.slice Ao25 t120.length co25)) (fun _ hk => hk.2) (.slice Ao24 y123.length co24)) (fun _ hk => (by first | exact hk.1 | grind))), fun _ => (by (with_reducible repeat (first | apply Kd.R_alloc | apply Kd.R_drewN | apply Kd.R_drew)); exact Kd.R_mono (Kd.R_far (p := ⟨gb113, 2, none⟩) (Kd.R_far (p := ⟨gb113, 1, none⟩) (Kd.R_far (p := ⟨gb113, 0, none⟩) (Kd.R_types HO125.out BK113.out (by decide)) (fun _ hk => hk.2) (.slice Ao26 t117.length co26)) (fun _ hk => hk.2) (.slice Ao25 t120.length co25)) (fun _ hk => hk.2) (.slice Ao24 y123.length co24)) (fun _ hk => (by first | exact ⟨hk.1.1, ⟨hk.1.2.1, hk.1.2.2⟩⟩ | grind))), fun _ => (by (with_reducible repeat (first | refine blk_drewN ?_ _ | refine blk_drew ?_ | refine blk_alloc ?_ _)); refine blk_put (cs := #[.slice Ao26 t117.length co26, .slice Ao25 t120.length co25, .slice none 0 0]) ?_ 2 _ rfl; refine blk_put (cs := #[.slice Ao26 t117.length co26, .slice none 0 0, .slice none 0 0]) ?_ 1 _ rfl; refine blk_put (cs := #[.slice none 0 0, .slice none 0 0, .slice none 0 0]) ?_ 0 _ rfl; (with_reducible repeat (first | refine blk_drewN ?_ _ | refine blk_drew ?_ | refine blk_alloc ?_ _)); exact BK113.out), fun h0_ => absurd ((hoff 8 (by kernel_rfl)).symm.trans h0_) (by decide), Q_X5_⟩
  refine steps_cons ?_ ?_
  ·rintro b a w' ⟨v118, v121, v124, m5_, ha, Q_BK113, Q_BK114, Q_BK115, Q_BK116, Q_HB, Q_HO119, Q_HO122, Q_HO125, Q_BK113_e7, Q_BK114_e8, Q_X5_⟩ hb_ hon hoff
   refine ⟨_, rfl, fun K hK => ?_⟩
   have e1 : a.tmps[1]? = some (.pointer (some ⟨gb114, 0, none⟩)) := by rw [ha]; exact (putSel_off rfl).trans rfl
   have e12 : a.tmps[12]? = some (.agg #[.int .i64 60, .int .i64 30, .int .i64 40, .int .i64 1440, .int .i64 2880, .int .i64 0, .int .i64 0, .slice none 0 0, .slice none 0 0, .slice none 0 0, .slice none 0 0, .slice none 0 0, .slice none 0 0, .int .i64 0]) := by rw [ha]; exact putSel_on (e := (6, 12, .agg #[.int .i64 60, .int .i64 30, .int .i64 40, .int .i64 1440, .int .i64 2880, .int .i64 0, .int .i64 0, .slice none 0 0, .slice none 0 0, .slice none 0 0, .slice none 0 0, .slice none 0 0, .slice none 0 0, .int .i64 0])) 6 rfl rfl (hon 6 (by kernel_rfl)) rfl
   replace ha := Aside0.mk ha
   have BK114 := Aside0.mk (Q_BK114 hb_)
   have BK115 := Aside0.mk Q_BK115
   have BK116 := Aside0.mk Q_BK116
   have HB := Aside0.mk Q_HB
   have HO119 := Aside0.mk (Q_HO119 (hon 0 (by kernel_rfl)))
   have HO122 := Aside0.mk (Q_HO122 (hon 1 (by kernel_rfl)))
   have HO125 := Aside0.mk (Q_HO125 (hon 4 (by kernel_rfl)))
   have BK113 := Aside0.mk (Q_BK113_e7 (hon 7 (by kernel_rfl)))
   obtain ⟨Ao27, co27, eo27⟩ := Kd.R_slice HO125.out
   (first | subst eo27 | (injection eo27 with f1_ f2_ f3_; have f4_ := f1_.symm; have f5_ := f3_.symm; clear f1_ f2_ f3_; subst f4_; subst f5_))
   obtain ⟨Ao28, co28, eo28⟩ := Kd.R_slice HO122.out
   (first | subst eo28 | (injection eo28 with f1_ f2_ f3_; have f4_ := f1_.symm; have f5_ := f3_.symm; clear f1_ f2_ f3_; subst f4_; subst f5_))
   obtain ⟨Ao29, co29, eo29⟩ := Kd.N_slice HO119.out
   (first | subst eo29 | (injection eo29 with f1_ f2_ f3_; have f4_ := f1_.symm; have f5_ := f3_.symm; clear f1_ f2_ f3_; subst f4_; subst f5_))
   have hs30 : w'.cell? ⟨gb114, 0, none⟩ = some (.int .i64 0) := (blk_cell BK114.out 0).trans rfl
   have hfs30 := blk_frozen BK114.out 0
   have hns30_0 := NB113_114.out
   have hns30_2 := NB115_114.out
   have hns30_3 := NB116_114.out
   have hms30_0 := NB114_113.out
   have hms30_2 := NB114_115.out
   have hms30_3 := NB114_116.out
   have hs31 : w'.cell? ⟨gb114, 1, none⟩ = some (.int .i64 0) := (blk_cell BK114.out 1).trans rfl
   have hfs31 := blk_frozen BK114.out 1
   have hns31_0 := NB113_114.out
   have hns31_2 := NB115_114.out
   have hns31_3 := NB116_114.out
   have hms31_0 := NB114_113.out
   have hms31_2 := NB114_115.out
   have hms31_3 := NB114_116.out
   have hs32 : w'.cell? ⟨gb114, 2, none⟩ = some (.int .i64 0) := (blk_cell BK114.out 2).trans rfl
   have hfs32 := blk_frozen BK114.out 2
   have hns32_0 := NB113_114.out
   have hns32_2 := NB115_114.out
   have hns32_3 := NB116_114.out
   have hms32_0 := NB114_113.out
   have hms32_2 := NB114_115.out
   have hms32_3 := NB114_116.out
   have hs33 : w'.cell? ⟨gb114, 3, none⟩ = some (.int .i64 0) := (blk_cell BK114.out 3).trans rfl
   have hfs33 := blk_frozen BK114.out 3
   have hns33_0 := NB113_114.out
   have hns33_2 := NB115_114.out
   have hns33_3 := NB116_114.out
   have hms33_0 := NB114_113.out
   have hms33_2 := NB114_115.out
   have hms33_3 := NB114_116.out
   have hs34 : w'.cell? ⟨gb114, 4, none⟩ = some (.int .i64 0) := (blk_cell BK114.out 4).trans rfl
   have hfs34 := blk_frozen BK114.out 4
   have hns34_0 := NB113_114.out
   have hns34_2 := NB115_114.out
   have hns34_3 := NB116_114.out
   have hms34_0 := NB114_113.out
   have hms34_2 := NB114_115.out
   have hms34_3 := NB114_116.out
   have hs35 : w'.cell? ⟨gb114, 5, none⟩ = some (.int .i64 0) := (blk_cell BK114.out 5).trans rfl
   have hfs35 := blk_frozen BK114.out 5
   have hns35_0 := NB113_114.out
   have hns35_2 := NB115_114.out
   have hns35_3 := NB116_114.out
   have hms35_0 := NB114_113.out
   have hms35_2 := NB114_115.out
   have hms35_3 := NB114_116.out
   have hs36 : w'.cell? ⟨gb114, 6, none⟩ = some (.int .i64 0) := (blk_cell BK114.out 6).trans rfl
   have hfs36 := blk_frozen BK114.out 6
   have hns36_0 := NB113_114.out
   have hns36_2 := NB115_114.out
   have hns36_3 := NB116_114.out
   have hms36_0 := NB114_113.out
   have hms36_2 := NB114_115.out
   have hms36_3 := NB114_116.out
   have hs37 : w'.cell? ⟨gb114, 7, none⟩ = some (.slice none 0 0) := (blk_cell BK114.out 7).trans rfl
   have hfs37 := blk_frozen BK114.out 7
   have hns37_0 := NB113_114.out
   have hns37_2 := NB115_114.out
   have hns37_3 := NB116_114.out
   have hms37_0 := NB114_113.out
   have hms37_2 := NB114_115.out
   have hms37_3 := NB114_116.out
   have hs38 : w'.cell? ⟨gb114, 8, none⟩ = some (.slice none 0 0) := (blk_cell BK114.out 8).trans rfl
   have hfs38 := blk_frozen BK114.out 8
   have hns38_0 := NB113_114.out
   have hns38_2 := NB115_114.out
   have hns38_3 := NB116_114.out
   have hms38_0 := NB114_113.out
   have hms38_2 := NB114_115.out
   have hms38_3 := NB114_116.out
   have hs39 : w'.cell? ⟨gb114, 9, none⟩ = some (.slice none 0 0) := (blk_cell BK114.out 9).trans rfl
   have hfs39 := blk_frozen BK114.out 9
   have hns39_0 := NB113_114.out
   have hns39_2 := NB115_114.out
   have hns39_3 := NB116_114.out
   have hms39_0 := NB114_113.out
   have hms39_2 := NB114_115.out
   have hms39_3 := NB114_116.out
   have hs40 : w'.cell? ⟨gb114, 10, none⟩ = some (.slice none 0 0) := (blk_cell BK114.out 10).trans rfl
   have hfs40 := blk_frozen BK114.out 10
   have hns40_0 := NB113_114.out
   have hns40_2 := NB115_114.out
   have hns40_3 := NB116_114.out
   have hms40_0 := NB114_113.out
   have hms40_2 := NB114_115.out
   have hms40_3 := NB114_116.out
   have hs41 : w'.cell? ⟨gb114, 11, none⟩ = some (.slice none 0 0) := (blk_cell BK114.out 11).trans rfl
   have hfs41 := blk_frozen BK114.out 11
   have hns41_0 := NB113_114.out
   have hns41_2 := NB115_114.out
   have hns41_3 := NB116_114.out
   have hms41_0 := NB114_113.out
   have hms41_2 := NB114_115.out
   have hms41_3 := NB114_116.out
   have hs42 : w'.cell? ⟨gb114, 12, none⟩ = some (.slice none 0 0) := (blk_cell BK114.out 12).trans rfl
   have hfs42 := blk_frozen BK114.out 12
   have hns42_0 := NB113_114.out
   have hns42_2 := NB115_114.out
   have hns42_3 := NB116_114.out
   have hms42_0 := NB114_113.out
   have hms42_2 := NB114_115.out
   have hms42_3 := NB114_116.out
   have hs43 : w'.cell? ⟨gb114, 13, none⟩ = some (.int .i64 0) := (blk_cell BK114.out 13).trans rfl
   have hfs43 := blk_frozen BK114.out 13
   have hns43_0 := NB113_114.out
   have hns43_2 := NB115_114.out
   have hns43_3 := NB116_114.out
   have hms43_0 := NB114_113.out
   have hms43_2 := NB114_115.out
   have hms43_3 := NB114_116.out
   refine skip_ (w1 := ?_) (by rfl) rfl ?_ ?_
   rotate_left
   ·go_simp
    rfl
   refine hK.out _ _ ⟨.slice Ao29 t117.length co29, .slice Ao28 t120.length co28, .slice Ao27 y123.length co27, m5_, (by rw [ha.out]; exact putSel_none (v := undef) rfl), fun h0_ => absurd ((hon 7 (by kernel_rfl)).symm.trans h0_) (by decide), fun h0_ => absurd ((up_self b 8).symm.trans h0_) (by decide), (by (with_reducible repeat (first | refine blk_drewN ?_ _ | refine blk_drew ?_ | refine blk_alloc ?_ _)); refine blk_far ?_ NB115_114.out _; refine blk_far ?_ NB115_114.out _; refine blk_far ?_ NB115_114.out _; refine blk_far ?_ NB115_114.out _; refine blk_far ?_ NB115_114.out _; refine blk_far ?_ NB115_114.out _; refine blk_far ?_ NB115_114.out _; refine blk_far ?_ NB115_114.out _; refine blk_far ?_ NB115_114.out _; refine blk_far ?_ NB115_114.out _; refine blk_far ?_ NB115_114.out _; refine blk_far ?_ NB115_114.out _; refine blk_far ?_ NB115_114.out _; refine blk_far ?_ NB115_114.out _; (with_reducible repeat (first | refine blk_drewN ?_ _ | refine blk_drew ?_ | refine blk_alloc ?_ _)); exact BK115.out), (by (with_reducible repeat (first | refine blk_drewN ?_ _ | refine blk_drew ?_ | refine blk_alloc ?_ _)); refine blk_far ?_ NB116_114.out _; refine blk_far ?_ NB116_114.out _; refine blk_far ?_ NB116_114.out _; refine blk_far ?_ NB116_114.out _; refine blk_far ?_ NB116_114.out _; refine blk_far ?_ NB116_114.out _; refine blk_far ?_ NB116_114.out _; refine blk_far ?_ NB116_114.out _; refine blk_far ?_ NB116_114.out _; refine blk_far ?_ NB116_114.out _; refine blk_far ?_ NB116_114.out _; refine blk_far ?_ NB116_114.out _; refine blk_far ?_ NB116_114.out _; refine blk_far ?_ NB116_114.out _; (with_reducible repeat (first | refine blk_drewN ?_ _ | refine blk_drew ?_ | refine blk_alloc ?_ _)); exact BK116.out), hbk, fun _ => (by (with_reducible repeat (first | apply Kd.N_alloc | apply Kd.N_drewN | apply Kd.N_drew)); exact Kd.N_mono (Kd.N_far (p := ⟨gb114, 13, none⟩) (Kd.N_far (p := ⟨gb114, 12, none⟩) (Kd.N_far (p := ⟨gb114, 11, none⟩) (Kd.N_far (p := ⟨gb114, 10, none⟩) (Kd.N_far (p := ⟨gb114, 9, none⟩) (Kd.N_far (p := ⟨gb114, 8, none⟩) (Kd.N_far (p := ⟨gb114, 7, none⟩) (Kd.N_far (p := ⟨gb114, 6, none⟩) (Kd.N_far (p := ⟨gb114, 5, none⟩) (Kd.N_far (p := ⟨gb114, 4, none⟩) (Kd.N_far (p := ⟨gb114, 3, none⟩) (Kd.N_far (p := ⟨gb114, 2, none⟩) (Kd.N_far (p := ⟨gb114, 1, none⟩) (Kd.N_far (p := ⟨gb114, 0, none⟩) (Kd.N_mono HO119.out (fun k_ hk => (⟨hk, by first | exact hk.2.2.2.2.1 | grind⟩ : _ ∧ k_ ≠ gb114))) (fun _ hk => hk.2) (.int .i64 60)) (fun _ hk => hk.2) (.int .i64 30)) (fun _ hk => hk.2) (.int .i64 40)) (fun _ hk => hk.2) (.int .i64 1440)) (fun _ hk => hk.2) (.int .i64 2880)) (fun _ hk => hk.2) (.int .i64 0)) (fun _ hk => hk.2) (.int .i64 0)) (fun _ hk => hk.2) (.slice none 0 0)) (fun _ hk => hk.2) (.slice none 0 0)) (fun _ hk => hk.2) (.slice none 0 0)) (fun _ hk => hk.2) (.slice none 0 0)) (fun _ hk => hk.2) (.slice none 0 0)) (fun _ hk => hk.2) (.slice none 0 0)) (fun _ hk => hk.2) (.int .i64 0)) (fun _ hk => (by first | exact ⟨hk.1.1, ⟨hk.1.2.1, ⟨hk.1.2.2.1, ⟨hk.1.2.2.2.1, ⟨hk.1.2.2.2.2.1, ⟨hk.1.2.2.2.2.2.1, hk.1.2.2.2.2.2.2⟩⟩⟩⟩⟩⟩ | grind))), fun _ => (by (with_reducible repeat (first | apply Kd.R_alloc | apply Kd.R_drewN | apply Kd.R_drew)); exact Kd.R_mono (Kd.R_far (p := ⟨gb114, 13, none⟩) (Kd.R_far (p := ⟨gb114, 12, none⟩) (Kd.R_far (p := ⟨gb114, 11, none⟩) (Kd.R_far (p := ⟨gb114, 10, none⟩) (Kd.R_far (p := ⟨gb114, 9, none⟩) (Kd.R_far (p := ⟨gb114, 8, none⟩) (Kd.R_far (p := ⟨gb114, 7, none⟩) (Kd.R_far (p := ⟨gb114, 6, none⟩) (Kd.R_far (p := ⟨gb114, 5, none⟩) (Kd.R_far (p := ⟨gb114, 4, none⟩) (Kd.R_far (p := ⟨gb114, 3, none⟩) (Kd.R_far (p := ⟨gb114, 2, none⟩) (Kd.R_far (p := ⟨gb114, 1, none⟩) (Kd.R_far (p := ⟨gb114, 0, none⟩) (Kd.R_types HO122.out BK114.out (by decide)) (fun _ hk => hk.2) (.int .i64 60)) (fun _ hk => hk.2) (.int .i64 30)) (fun _ hk => hk.2) (.int .i64 40)) (fun _ hk => hk.2) (.int .i64 1440)) (fun _ hk => hk.2) (.int .i64 2880)) (fun _ hk => hk.2) (.int .i64 0)) (fun _ hk => hk.2) (.int .i64 0)) (fun _ hk => hk.2) (.slice none 0 0)) (fun _ hk => hk.2) (.slice none 0 0)) (fun _ hk => hk.2) (.slice none 0 0)) (fun _ hk => hk.2) (.slice none 0 0)) (fun _ hk => hk.2) (.slice none 0 0)) (fun _ hk => hk.2) (.slice none 0 0)) (fun _ hk => hk.2) (.int .i64 0)) (fun _ hk => (by first | exact hk.1 | grind))), fun _ => (by (with_reducible repeat (first | apply Kd.R_alloc | apply Kd.R_drewN | apply Kd.R_drew)); exact Kd.R_mono (Kd.R_far (p := ⟨gb114, 13, none⟩) (Kd.R_far (p := ⟨gb114, 12, none⟩) (Kd.R_far (p := ⟨gb114, 11, none⟩) (Kd.R_far (p := ⟨gb114, 10, none⟩) (Kd.R_far (p := ⟨gb114, 9, none⟩) (Kd.R_far (p := ⟨gb114, 8, none⟩) (Kd.R_far (p := ⟨gb114, 7, none⟩) (Kd.R_far (p := ⟨gb114, 6, none⟩) (Kd.R_far (p := ⟨gb114, 5, none⟩) (Kd.R_far (p := ⟨gb114, 4, none⟩) (Kd.R_far (p := ⟨gb114, 3, none⟩) (Kd.R_far (p := ⟨gb114, 2, none⟩) (Kd.R_far (p := ⟨gb114, 1, none⟩) (Kd.R_far (p := ⟨gb114, 0, none⟩) (Kd.R_types HO125.out BK114.out (by decide)) (fun _ hk => hk.2) (.int .i64 60)) (fun _ hk => hk.2) (.int .i64 30)) (fun _ hk => hk.2) (.int .i64 40)) (fun _ hk => hk.2) (.int .i64 1440)) (fun _ hk => hk.2) (.int .i64 2880)) (fun _ hk => hk.2) (.int .i64 0)) (fun _ hk => hk.2) (.int .i64 0)) (fun _ hk => hk.2) (.slice none 0 0)) (fun _ hk => hk.2) (.slice none 0 0)) (fun _ hk => hk.2) (.slice none 0 0)) (fun _ hk => hk.2) (.slice none 0 0)) (fun _ hk => hk.2) (.slice none 0 0)) (fun _ hk => hk.2) (.slice none 0 0)) (fun _ hk => hk.2) (.int .i64 0)) (fun _ hk => (by first | exact ⟨hk.1.1, ⟨hk.1.2.1, hk.1.2.2⟩⟩ | grind))), fun _ => (by (with_reducible repeat (first | refine blk_drewN ?_ _ | refine blk_drew ?_ | refine blk_alloc ?_ _)); refine blk_far ?_ NB113_114.out _; refine blk_far ?_ NB113_114.out _; refine blk_far ?_ NB113_114.out _; refine blk_far ?_ NB113_114.out _; refine blk_far ?_ NB113_114.out _; refine blk_far ?_ NB113_114.out _; refine blk_far ?_ NB113_114.out _; refine blk_far ?_ NB113_114.out _; refine blk_far ?_ NB113_114.out _; refine blk_far ?_ NB113_114.out _; refine blk_far ?_ NB113_114.out _; refine blk_far ?_ NB113_114.out _; refine blk_far ?_ NB113_114.out _; refine blk_far ?_ NB113_114.out _; (with_reducible repeat (first | refine blk_drewN ?_ _ | refine blk_drew ?_ | refine blk_alloc ?_ _)); exact BK113.out), fun _ => (by (with_reducible repeat (first | refine blk_drewN ?_ _ | refine blk_drew ?_ | refine blk_alloc ?_ _)); refine blk_put (cs := #[.int .i64 60, .int .i64 30, .int .i64 40, .int .i64 1440, .int .i64 2880, .int .i64 0, .int .i64 0, .slice none 0 0, .slice none 0 0, .slice none 0 0, .slice none 0 0, .slice none 0 0, .slice none 0 0, .int .i64 0]) ?_ 13 _ rfl; refine blk_put (cs := #[.int .i64 60, .int .i64 30, .int .i64 40, .int .i64 1440, .int .i64 2880, .int .i64 0, .int .i64 0, .slice none 0 0, .slice none 0 0, .slice none 0 0, .slice none 0 0, .slice none 0 0, .slice none 0 0, .int .i64 0]) ?_ 12 _ rfl; refine blk_put (cs := #[.int .i64 60, .int .i64 30, .int .i64 40, .int .i64 1440, .int .i64 2880, .int .i64 0, .int .i64 0, .slice none 0 0, .slice none 0 0, .slice none 0 0, .slice none 0 0, .slice none 0 0, .slice none 0 0, .int .i64 0]) ?_ 11 _ rfl; refine blk_put (cs := #[.int .i64 60, .int .i64 30, .int .i64 40, .int .i64 1440, .int .i64 2880, .int .i64 0, .int .i64 0, .slice none 0 0, .slice none 0 0, .slice none 0 0, .slice none 0 0, .slice none 0 0, .slice none 0 0, .int .i64 0]) ?_ 10 _ rfl; refine blk_put (cs := #[.int .i64 60, .int .i64 30, .int .i64 40, .int .i64 1440, .int .i64 2880, .int .i64 0, .int .i64 0, .slice none 0 0, .slice none 0 0, .slice none 0 0, .slice none 0 0, .slice none 0 0, .slice none 0 0, .int .i64 0]) ?_ 9 _ rfl; refine blk_put (cs := #[.int .i64 60, .int .i64 30, .int .i64 40, .int .i64 1440, .int .i64 2880, .int .i64 0, .int .i64 0, .slice none 0 0, .slice none 0 0, .slice none 0 0, .slice none 0 0, .slice none 0 0, .slice none 0 0, .int .i64 0]) ?_ 8 _ rfl; refine blk_put (cs := #[.int .i64 60, .int .i64 30, .int .i64 40, .int .i64 1440, .int .i64 2880, .int .i64 0, .int .i64 0, .slice none 0 0, .slice none 0 0, .slice none 0 0, .slice none 0 0, .slice none 0 0, .slice none 0 0, .int .i64 0]) ?_ 7 _ rfl; refine blk_put (cs := #[.int .i64 60, .int .i64 30, .int .i64 40, .int .i64 1440, .int .i64 2880, .int .i64 0, .int .i64 0, .slice none 0 0, .slice none 0 0, .slice none 0 0, .slice none 0 0, .slice none 0 0, .slice none 0 0, .int .i64 0]) ?_ 6 _ rfl; refine blk_put (cs := #[.int .i64 60, .int .i64 30, .int .i64 40, .int .i64 1440, .int .i64 2880, .int .i64 0, .int .i64 0, .slice none 0 0, .slice none 0 0, .slice none 0 0, .slice none 0 0, .slice none 0 0, .slice none 0 0, .int .i64 0]) ?_ 5 _ rfl; refine blk_put (cs := #[.int .i64 60, .int .i64 30, .int .i64 40, .int .i64 1440, .int .i64 0, .int .i64 0, .int .i64 0, .slice none 0 0, .slice none 0 0, .slice none 0 0, .slice none 0 0, .slice none 0 0, .slice none 0 0, .int .i64 0]) ?_ 4 _ rfl; refine blk_put (cs := #[.int .i64 60, .int .i64 30, .int .i64 40, .int .i64 0, .int .i64 0, .int .i64 0, .int .i64 0, .slice none 0 0, .slice none 0 0, .slice none 0 0, .slice none 0 0, .slice none 0 0, .slice none 0 0, .int .i64 0]) ?_ 3 _ rfl; refine blk_put (cs := #[.int .i64 60, .int .i64 30, .int .i64 0, .int .i64 0, .int .i64 0, .int .i64 0, .int .i64 0, .slice none 0 0, .slice none 0 0, .slice none 0 0, .slice none 0 0, .slice none 0 0, .slice none 0 0, .int .i64 0]) ?_ 2 _ rfl; refine blk_put (cs := #[.int .i64 60, .int .i64 0, .int .i64 0, .int .i64 0, .int .i64 0, .int .i64 0, .int .i64 0, .slice none 0 0, .slice none 0 0, .slice none 0 0, .slice none 0 0, .slice none 0 0, .slice none 0 0, .int .i64 0]) ?_ 1 _ rfl; refine blk_put (cs := #[.int .i64 0, .int .i64 0, .int .i64 0, .int .i64 0, .int .i64 0, .int .i64 0, .int .i64 0, .slice none 0 0, .slice none 0 0, .slice none 0 0, .slice none 0 0, .slice none 0 0, .slice none 0 0, .int .i64 0]) ?_ 0 _ rfl; (with_reducible repeat (first | refine blk_drewN ?_ _ | refine blk_drew ?_ | refine blk_alloc ?_ _)); exact BK114.out), Q_X5_⟩
  exact steps_nil
 rintro b a w40 hall ⟨v118, v121, v124, m5_, ha, Q_BK113, Q_BK114, Q_BK115, Q_BK116, Q_HB, Q_HO119, Q_HO122, Q_HO125, Q_BK113_e7, Q_BK114_e8, Q_X5_⟩
 clear BK113 BK114 BK115 BK116 HB
 have hb0_ := hall 0 (by kernel_rfl)
 have hb1_ := hall 1 (by kernel_rfl)
 have hb2_ := hall 2 (by kernel_rfl)
 have hb3_ := hall 3 (by kernel_rfl)
 have hb4_ := hall 4 (by kernel_rfl)
 have hb5_ := hall 5 (by kernel_rfl)
 have hb6_ := hall 6 (by kernel_rfl)
 have hb7_ := hall 7 (by kernel_rfl)
 have hb8_ := hall 8 (by kernel_rfl)
 subst ha
 obtain rfl := Q_X5_ hb5_
 simp only [putSel, hb0_, hb1_, hb2_, hb3_, hb4_, hb5_, hb6_, hb7_, hb8_, if_true, Act.put, List.setIfInBounds_toArray, List.set_cons_zero, List.set_cons_succ]
 clear Q_BK113
 clear Q_BK114
 have BK115 := Aside0.mk Q_BK115
 clear Q_BK115
 have BK116 := Aside0.mk Q_BK116
 clear Q_BK116
 have HB := Aside0.mk Q_HB
 clear Q_HB
 have HO119 := Aside0.mk (Q_HO119 hb0_)
 clear Q_HO119
 have HO122 := Aside0.mk (Q_HO122 hb1_)
 clear Q_HO122
 have HO125 := Aside0.mk (Q_HO125 hb4_)
 clear Q_HO125
 have BK113 := Aside0.mk (Q_BK113_e7 hb7_)
 clear Q_BK113_e7
 have BK114 := Aside0.mk (Q_BK114_e8 hb8_)
 clear Q_BK114_e8
 clear hall hb0_ hb1_ hb2_ hb3_ hb4_ hb5_ hb6_ hb7_ hb8_
 obtain ⟨Ao41, co41, eo41⟩ := Kd.R_slice HO125.out
 (first | subst eo41 | (injection eo41 with f1_ f2_ f3_; have f4_ := f1_.symm; have f5_ := f3_.symm; clear f1_ f2_ f3_; subst f4_; subst f5_))
 obtain ⟨Ao42, co42, eo42⟩ := Kd.R_slice HO122.out
 (first | subst eo42 | (injection eo42 with f1_ f2_ f3_; have f4_ := f1_.symm; have f5_ := f3_.symm; clear f1_ f2_ f3_; subst f4_; subst f5_))
 obtain ⟨Ao43, co43, eo43⟩ := Kd.N_slice HO119.out
 (first | subst eo43 | (injection eo43 with f1_ f2_ f3_; have f4_ := f1_.symm; have f5_ := f3_.symm; clear f1_ f2_ f3_; subst f4_; subst f5_))
 try go_wp2
 refine bodyPost_ret (results_cc rfl _ _ gb113 gb114 32 40 #[.slice Ao43 t117.length co43, .slice Ao42 t120.length co42, .slice Ao41 y123.length co41] #[.int .i64 60, .int .i64 30, .int .i64 40, .int .i64 1440, .int .i64 2880, .int .i64 0, .int .i64 0, .slice none 0 0, .slice none 0 0, .slice none 0 0, .slice none 0 0, .slice none 0 0, .slice none 0 0, .int .i64 0] (0, 0) (0, 0) _ _ rfl (bk BK113.out) Tryz.underlying32 rfl (by kernel_rfl) rfl (bk BK114.out) Tryz.underlying40 rfl (by kernel_rfl)) rfl ?_
 exact ⟨_, _, _, _, _, _, _, _, _, hrf, by (with_reducible repeat (first | apply Kd.N_alloc | apply Kd.N_drewN | apply Kd.N_drew)); exact Kd.N_mono HO119.out (fun _ hk => (by first | exact ⟨hk.1, ⟨hk.2.1, ⟨hk.2.2.1, ⟨(by simp [Value.ownBlock]), ⟨(by simp [Value.ownBlock]), ⟨(by simp [Value.ownBlock]), ⟨(by simp [Value.ownBlock]), ⟨(by simp [Value.ownBlock]), (by simp [Value.ownBlock])⟩⟩⟩⟩⟩⟩⟩⟩ | grind)), by (with_reducible repeat (first | apply Kd.R_alloc | apply Kd.R_drewN | apply Kd.R_drew)); exact HO122.out, by (with_reducible repeat (first | apply Kd.R_alloc | apply Kd.R_drewN | apply Kd.R_drew)); exact Kd.R_mono HO125.out (fun _ hk => (by first | exact hk.1 | grind)), by first | exact Kd.R_nil _ _ _ _ _ | exact Kd.N_nil _ _ _ _ _ | exact Kd.V_nil _ _ _ _ _ | exact Kd.Q_nil _ _ _ _ _ | exact Kd.S_nil _ _ _ _ _, by first | exact Kd.R_nil _ _ _ _ _ | exact Kd.N_nil _ _ _ _ _ | exact Kd.V_nil _ _ _ _ _ | exact Kd.Q_nil _ _ _ _ _ | exact Kd.S_nil _ _ _ _ _, by first | exact Kd.R_nil _ _ _ _ _ | exact Kd.N_nil _ _ _ _ _ | exact Kd.V_nil _ _ _ _ _ | exact Kd.Q_nil _ _ _ _ _ | exact Kd.S_nil _ _ _ _ _, by first | exact Kd.R_nil _ _ _ _ _ | exact Kd.N_nil _ _ _ _ _ | exact Kd.V_nil _ _ _ _ _ | exact Kd.Q_nil _ _ _ _ _ | exact Kd.S_nil _ _ _ _ _, by first | exact Kd.R_nil _ _ _ _ _ | exact Kd.N_nil _ _ _ _ _ | exact Kd.V_nil _ _ _ _ _ | exact Kd.Q_nil _ _ _ _ _ | exact Kd.S_nil _ _ _ _ _, by first | exact Kd.R_nil _ _ _ _ _ | exact Kd.N_nil _ _ _ _ _ | exact Kd.V_nil _ _ _ _ _ | exact Kd.Q_nil _ _ _ _ _ | exact Kd.S_nil _ _ _ _ _, hbk⟩
end Go.Proofs.YtilnppdognejbaaGreatDoor.P
namespace Go.Proofs.YtilnppdognejbaaGreatDoor.P
open Go.RowKit Go.Proofs.YtilnppdognejbaaGreatDoorW.PrintWords Go.Proofs.YtilnppdognejbaaGreatDoorW.PrintLast Go.Proofs.YtilnppdognejbaaGreatDoorW.PrintMore
attribute [local go_sem] max2_int min2_int max_two min_two max_three min_three max_four min_four   -- for this text's walks alone
set_option linter.unusedVariables false
set_option linter.unusedSimpArgs false
def text_lower.f (a0 : Int) : Option (Bool) := if a0 ≥ 97 then (some (decide (a0 ≤ 122))) else (some false)
set_option maxHeartbeats 8000000 in
set_option maxRecDepth 100000 in
theorem text_lower.calls (a0 : Int) (r : Bool) (w : World) (h : text_lower.f a0 = some r) :
  Calls Tryz.prog 114 #[.int .u8 a0] w fun e w' => e = .returned (.bool r) ∧ Drawn0 w w' := by
 have H : (if a0 ≥ 97 then (some (decide (a0 ≤ 122))) else (some false)) = some r := h
 clear h
 by_cases c2 : a0 ≥ 97
 ·rw [if_pos c2] at H
  have c2b0 : decide (97 ≤ a0) = true := decide_eq_true c2
  clear c2
  obtain rfl := Option.some.inj H
  go_enter Tryz.func114, Tryz.ntmps114
  go_wp2
  go_ret
  exact ⟨by first | rfl | (simp; done) | (simp [*]; done), by repeat (first | exact Drawn0.refl _ | apply Drawn0.step)⟩
 ·rw [if_neg c2] at H
  have c2b0 : decide (97 ≤ a0) = false := decide_eq_false c2
  clear c2
  obtain rfl := Option.some.inj H
  go_enter Tryz.func114, Tryz.ntmps114
  go_wp2
  go_ret
  exact ⟨by first | rfl | (simp; done) | (simp [*]; done), by repeat (first | exact Drawn0.refl _ | apply Drawn0.step)⟩
end Go.Proofs.YtilnppdognejbaaGreatDoor.P
namespace Go.Proofs.YtilnppdognejbaaGreatDoor.P
open Go.RowKit Go.Proofs.YtilnppdognejbaaGreatDoorW.PrintWords Go.Proofs.YtilnppdognejbaaGreatDoorW.PrintLast Go.Proofs.YtilnppdognejbaaGreatDoorW.PrintMore
attribute [local go_sem] max2_int min2_int max_two min_two max_three min_three max_four min_four   -- for this text's walks alone
set_option linter.unusedVariables false
set_option linter.unusedSimpArgs false
def isLow (c : Int) : Bool := decide (97 ≤ c) && decide (c ≤ 122)
def isDig (c : Int) : Bool := decide (48 ≤ c) && decide (c ≤ 57)
def isNm (c : Int) : Bool := isLow c || isDig c || decide (c = 95)
theorem low_f (c : Int) : text_lower.f c = some (isLow c) := by
 unfold text_lower.f isLow
 by_cases h : c ≥ 97
 ·rw [if_pos h]; simp [h]
 ·rw [if_neg h]; simp only [ge_iff_le] at h; simp [h]
theorem dig49 (c : Int) (w : World) : Calls Tryz.prog 117 #[.int .u8 c] w fun e w' => e = .returned (.bool (isDig c)) ∧ Drawn0 w w' := by
 by_cases h1 : 48 ≤ c
 ·have h2 : decide (48 ≤ c) = true := by simpa using h1
  clear h1
  go_enter Tryz.func117, Tryz.ntmps117
  go_wp2
  go_ret
  exact ⟨by simp [isDig, h2], by repeat (first | exact Drawn0.refl _ | apply Drawn0.step)⟩
 ·have h2 : decide (48 ≤ c) = false := by simpa using h1
  clear h1
  go_enter Tryz.func117, Tryz.ntmps117
  go_wp2
  go_ret
  exact ⟨by simp [isDig, h2], by repeat (first | exact Drawn0.refl _ | apply Drawn0.step)⟩
theorem nm48 (c : Int) (w : World) :
  Calls Tryz.prog 116 #[.int .u8 c] w fun e w' => e = .returned (.bool (isNm c)) ∧ Drawn0 w w' := by
 have hl := Aside0.mk (low_f c)
 by_cases h1 : isLow c = true
 ·go_enter Tryz.func116, Tryz.ntmps116
  go_wp2_with (first | (go_at_call 114; (with_reducible refine (text_lower.calls c _ _ hl.out).mono ?_); rintro e w' ⟨rfl, ⟨nd, rfl⟩⟩))
  go_ret
  exact ⟨by simp [isNm, h1], by repeat (first | exact Drawn0.refl _ | apply Drawn0.step)⟩
 ·replace h1 : isLow c = false := by simpa using h1
  by_cases h2 : isDig c = true
  ·go_enter Tryz.func116, Tryz.ntmps116
   go_wp2_with (first | (go_at_call 114; (with_reducible refine (text_lower.calls c _ _ hl.out).mono ?_); rintro e w' ⟨rfl, ⟨nd, rfl⟩⟩) | (go_at_call 117; (with_reducible refine (dig49 c _).mono ?_); rintro e w' ⟨rfl, ⟨nd, rfl⟩⟩))
   go_ret
   exact ⟨by simp [isNm, h1, h2], by repeat (first | exact Drawn0.refl _ | apply Drawn0.step)⟩
  ·replace h2 : isDig c = false := by simpa using h2
   go_enter Tryz.func116, Tryz.ntmps116
   go_wp2_with (first | (go_at_call 114; (with_reducible refine (text_lower.calls c _ _ hl.out).mono ?_); rintro e w' ⟨rfl, ⟨nd, rfl⟩⟩) | (go_at_call 117; (with_reducible refine (dig49 c _).mono ?_); rintro e w' ⟨rfl, ⟨nd, rfl⟩⟩))
   go_ret
   exact ⟨by simp [isNm, h1, h2]; rfl, by repeat (first | exact Drawn0.refl _ | apply Drawn0.step)⟩
def nmAll (s : ByteArray) : Bool := (List.range s.size).all fun j => isNm (bt s (j : Nat))
theorem nmAll_true {s : ByteArray} (h : ∀ j : Nat, j < s.size → isNm (bt s (j : Int)) = true) : nmAll s = true := by
 unfold nmAll
 rw [List.all_eq_true]
 intro x hx
 exact h x (by simpa using hx)
theorem nmAll_false {s : ByteArray} (k : Nat) (hk : k < s.size) (h : isNm (bt s (k : Int)) = false) : nmAll s = false := by
 unfold nmAll
 rw [List.all_eq_false]
 exact ⟨k, by simpa using hk, by simp [h]⟩
theorem all48 (s : ByteArray) (hs : s.size ≤ 16) (w : World) :
  Calls Tryz.prog 115 #[.string s, .func (.func 116) #[] #[]] w fun e w' => e = .returned (.bool (nmAll s)) ∧ Drawn0 w w' := by
  go_enter Tryz.func115, Tryz.ntmps115
  go_wp2_with fail
  go_loopw [8] (fun v8 w' => ∃ k : Nat, k ≤ s.size ∧ v8 = .int .i64 (k : Int) ∧ Aside0 (∀ j : Nat, j < k → isNm (bt s (j : Int)) = true) ∧ Drawn0 w w') (fun v8 _ => s.size - (intOf v8).toNat)
  case atStart => exact ⟨0, Nat.zero_le _, rfl, ⟨fun j h => by omega⟩, Drawn0.refl _⟩
  case round =>
   obtain ⟨k, hk, rfl, HA, ⟨n0, rfl⟩⟩ := hrel
   by_cases hlt : k < s.size
   ·have hx : ∀ h : k < s.size, ((s[k]'h).toNat : Int) = bt s (k : Int) := fun h => by have := bt_at s (k : Int) (by omega); simpa using this
    by_cases hn : isNm (bt s (k : Int)) = true
    ·have HN := Aside0.mk hn
     go_wp2_with (first | (go_at_call 116; (with_reducible refine (nm48 (bt s (k : Int)) _).mono ?_); rintro e w' ⟨rfl, ⟨nd, rfl⟩⟩))
     go_roundw
     case rel => exact ⟨k + 1, by omega, by go_num, ⟨fun j hj => by
      by_cases e : j = k
      ·subst e; exact HN.out
      ·exact HA.out j (by omega)⟩, by repeat (first | exact Drawn0.refl _ | apply Drawn0.step)⟩
     case measure => simp [intOf]; omega
    ·replace hn : isNm (bt s (k : Int)) = false := by simpa using hn
     have HN := Aside0.mk hn
     go_wp2_with (first | (go_at_call 116; (with_reducible refine (nm48 (bt s (k : Int)) _).mono ?_); rintro e w' ⟨rfl, ⟨nd, rfl⟩⟩))
     go_ret
     exact ⟨by rw [nmAll_false k hlt HN.out]; rfl, by repeat (first | exact Drawn0.refl _ | apply Drawn0.step)⟩
   ·have hf : nmAll s = true := nmAll_true (fun j hj => HA.out j (by omega))
    have HF := Aside0.mk hf
    clear hf
    go_wp2
    go_ret
    exact ⟨by rw [HF.out]; rfl, by repeat (first | exact Drawn0.refl _ | apply Drawn0.step)⟩
def nameB (s : ByteArray) : Bool := decide (1 ≤ s.size) && (decide (s.size ≤ 16) && (isLow (bt s 0) && nmAll s))
theorem text_IsName.calls1 (a0 : ByteArray) (w : World) :
  Calls Tryz.prog 92 #[.string a0] w fun e w' => e = .returned (.bool (nameB a0)) ∧ Drawn0 w w' := by
 have hl := Aside0.mk (low_f (bt a0 0))
 by_cases h1 : 1 ≤ a0.size
 ·have b1 : decide ((1 : Int) ≤ (a0.size : Int)) = true := decide_eq_true (by omega)
  have d1 : decide (1 ≤ a0.size) = true := decide_eq_true h1
  have hx : ∀ h : 0 < a0.size, ((a0[0]'h).toNat : Int) = bt a0 0 := bt_at a0 0
  by_cases h2 : a0.size ≤ 16
  ·have b2 : decide ((a0.size : Int) ≤ 16) = true := decide_eq_true (by omega)
   have d2 : decide (a0.size ≤ 16) = true := decide_eq_true h2
   by_cases h3 : isLow (bt a0 0) = true
   ·have HN : Aside0 (nameB a0 = nmAll a0) := ⟨by simp [nameB, h1, h2, h3]⟩
    have H2 := Aside0.mk h2
    go_enter Tryz.func92, Tryz.ntmps92
    go_wp2_with (first | (go_at_call 114; (with_reducible refine (text_lower.calls (bt a0 0) _ _ hl.out).mono ?_); rintro e w' ⟨rfl, ⟨nd, rfl⟩⟩) | (go_at_call 115; (with_reducible refine (all48 a0 H2.out _).mono ?_); rintro e w' ⟨rfl, ⟨nd2, rfl⟩⟩))
    go_ret
    exact ⟨by rw [HN.out]; rfl, by repeat (first | exact Drawn0.refl _ | apply Drawn0.step)⟩
   ·replace h3 : isLow (bt a0 0) = false := by simpa using h3
    have HN : Aside0 (nameB a0 = false) := ⟨by simp [nameB, h3]⟩
    go_enter Tryz.func92, Tryz.ntmps92
    go_wp2_with (first | (go_at_call 114; (with_reducible refine (text_lower.calls (bt a0 0) _ _ hl.out).mono ?_); rintro e w' ⟨rfl, ⟨nd, rfl⟩⟩))
    go_ret
    exact ⟨by rw [HN.out]; rfl, by repeat (first | exact Drawn0.refl _ | apply Drawn0.step)⟩
  ·have b2 : decide ((a0.size : Int) ≤ 16) = false := decide_eq_false (by omega)
   have d2 : decide (a0.size ≤ 16) = false := decide_eq_false h2
   have HN : Aside0 (nameB a0 = false) := ⟨by simp [nameB, h2]⟩
   go_enter Tryz.func92, Tryz.ntmps92
   go_wp2_with fail
   go_ret
   exact ⟨by rw [HN.out]; rfl, by repeat (first | exact Drawn0.refl _ | apply Drawn0.step)⟩
 ·have b1 : decide ((1 : Int) ≤ (a0.size : Int)) = false := decide_eq_false (by omega)
  have d1 : decide (1 ≤ a0.size) = false := decide_eq_false h1
  have HN : Aside0 (nameB a0 = false) := ⟨by simp [nameB, h1]⟩
  go_enter Tryz.func92, Tryz.ntmps92
  go_wp2_with fail
  go_ret
  exact ⟨by rw [HN.out]; rfl, by repeat (first | exact Drawn0.refl _ | apply Drawn0.step)⟩
def text_IsName.f (a0 : ByteArray) : Option Bool := some (nameB a0)
theorem text_IsName.calls (a0 : ByteArray) (r : Bool) (w : World) (h : text_IsName.f a0 = some r) :
  Calls Tryz.prog 92 #[.string a0] w fun e w' => e = .returned (.bool r) ∧ Drawn0 w w' := by
 obtain rfl := Option.some.inj h
 exact text_IsName.calls1 a0 w
end Go.Proofs.YtilnppdognejbaaGreatDoor.P
namespace Go.Proofs.YtilnppdognejbaaGreatDoor.P
open Go.RowKit Go.Proofs.YtilnppdognejbaaGreatDoorW.PrintWords Go.Proofs.YtilnppdognejbaaGreatDoorW.PrintLast Go.Proofs.YtilnppdognejbaaGreatDoorW.PrintMore
attribute [local go_sem] max2_int min2_int max_two min_two max_three min_three max_four min_four   -- for this text's walks alone
set_option linter.unusedVariables false
set_option linter.unusedSimpArgs false
def zone_offsetOK.f (a0 : Int) : Option (Bool) := if a0 ≥ (-840) then (some (decide (a0 ≤ 840))) else (some false)
set_option maxHeartbeats 8000000 in
set_option maxRecDepth 100000 in
theorem zone_offsetOK.calls (a0 : Int) (r : Bool) (w : World) (h : zone_offsetOK.f a0 = some r) :
  Calls Tryz.prog 93 #[.int .i64 a0] w fun e w' => e = .returned (.bool r) ∧ Drawn0 w w' := by
 have H : (if a0 ≥ (-840) then (some (decide (a0 ≤ 840))) else (some false)) = some r := h
 clear h
 by_cases c2 : a0 ≥ (-840)
 ·rw [if_pos c2] at H
  have c2b0 : decide ((-840) ≤ a0) = true := decide_eq_true c2
  clear c2
  obtain rfl := Option.some.inj H
  go_enter Tryz.func93, Tryz.ntmps93
  go_wp2
  go_ret
  exact ⟨by first | rfl | (simp; done) | (simp [*]; done), by repeat (first | exact Drawn0.refl _ | apply Drawn0.step)⟩
 ·rw [if_neg c2] at H
  have c2b0 : decide ((-840) ≤ a0) = false := decide_eq_false c2
  clear c2
  obtain rfl := Option.some.inj H
  go_enter Tryz.func93, Tryz.ntmps93
  go_wp2
  go_ret
  exact ⟨by first | rfl | (simp; done) | (simp [*]; done), by repeat (first | exact Drawn0.refl _ | apply Drawn0.step)⟩
end Go.Proofs.YtilnppdognejbaaGreatDoor.P
namespace Go.Proofs.YtilnppdognejbaaGreatDoor.P
open Go.RowKit Go.Proofs.YtilnppdognejbaaGreatDoorW.PrintWords Go.Proofs.YtilnppdognejbaaGreatDoorW.PrintLast Go.Proofs.YtilnppdognejbaaGreatDoorW.PrintMore
attribute [local go_sem] max2_int min2_int max_two min_two max_three min_three max_four min_four   -- for this text's walks alone
set_option linter.unusedVariables false
set_option linter.unusedSimpArgs false
mutual
def zone_Validate.l0 : Nat → List (S120) → Int → Int → ByteArray → Int → List (S120) → Option (Int)
 | 0, _, _, _, _, _, _ => none
 | k + 1, x21, x22, x23, x127000, x127001, x127002 => if x23 < x22 then (if 0 ≤ x23 then (if x23 < (x21.length : Int) then (if ((rd_T120 x21 x23).f0) < 0 then (zone_Validate.j1 k x23 x21 x22 x23 true x127000 x127001 x127002 ((rd_T120 x21 x23).f0) ((rd_T120 x21 x23).f1)) else (if ((rd_T120 x21 x23).f0) ≥ 52596000 then (zone_Validate.j1 k x23 x21 x22 x23 true x127000 x127001 x127002 ((rd_T120 x21 x23).f0) ((rd_T120 x21 x23).f1)) else ((zone_offsetOK.f ((rd_T120 x21 x23).f1)).bind fun t131 => (zone_Validate.j1 k x23 x21 x22 x23 (!t131) x127000 x127001 x127002 ((rd_T120 x21 x23).f0) ((rd_T120 x21 x23).f1))))) else (none)) else (none)) else (some 0)
def zone_Validate.j1 : Nat → Int → List (S120) → Int → Int → Bool → ByteArray → Int → List (S120) → Int → Int → Option (Int)
 | 0, _, _, _, _, _, _, _, _, _, _ => none
 | k + 1, x3, x21, x22, x23, x41, x127000, x127001, x127002, x131000, x131001 => if x41 = true then (some 5) else (if x3 > 0 then (if 0 ≤ (wrap64 (x3 - 1)) then (if (wrap64 (x3 - 1)) < (x127002.length : Int) then (if x131000 ≤ ((rd_T120 x127002 (wrap64 (x3 - 1))).f0) then (some 8) else (zone_Validate.l0 k x21 x22 (wrap64 (x23 + 1)) x127000 x127001 x127002)) else (none)) else (none)) else (zone_Validate.l0 k x21 x22 (wrap64 (x23 + 1)) x127000 x127001 x127002))
end
def zone_Validate.f (k : Nat) (a0_0 : ByteArray) (a0_1 : Int) (l0_2 : List (S120)) : Option (Int) := (text_IsName.f a0_0).bind fun t127 => (if t127 = true then ((zone_offsetOK.f a0_1).bind fun t128 => (if t128 = true then (if (l0_2.length : Int) > 16 then (some 10) else (zone_Validate.l0 k l0_2 (l0_2.length : Int) 0 a0_0 a0_1 l0_2)) else (some 5))) else (some 1))
set_option maxHeartbeats 8000000 in
set_option maxRecDepth 100000 in
theorem zone_Validate.calls (k : Nat) (a0_0 : ByteArray) (a0_1 : Int) (A0_2 : Option Addr) (c0_2 : Nat) (l0_2 : List (S120)) (r : Int) (w : World) (hr0_2 : Kd.C k120 w A0_2 l0_2.length l0_2) (hc0_2 : l0_2.length ≤ c0_2) (h : zone_Validate.f k a0_0 a0_1 l0_2 = some r) :
  Calls Tryz.prog 72 #[.agg #[.string a0_0, .int .i64 a0_1, .slice A0_2 l0_2.length c0_2]] w fun e w' => e = .returned (.int .i64 r) ∧ Below w.heap.size w w' := by
 have hu83 := Tryz.underlying83
 have hu120 := Tryz.underlying120
 have HR0_2 := Aside0.mk hr0_2
 have HC0_2 := Aside0.mk hc0_2
 clear hr0_2 hc0_2
 have HB := Aside0.mk (Below.refl w.heap.size w)
 have H : ((text_IsName.f a0_0).bind fun t127 => (if t127 = true then ((zone_offsetOK.f a0_1).bind fun t128 => (if t128 = true then (if (l0_2.length : Int) > 16 then (some 10) else (zone_Validate.l0 k l0_2 (l0_2.length : Int) 0 a0_0 a0_1 l0_2)) else (some 5))) else (some 1))) = some r := h
 clear h
 replace H := Option.bind_eq_some_iff.mp H
 obtain ⟨t127, A20, H⟩ := H
 replace H : (if t127 = true then ((zone_offsetOK.f a0_1).bind fun t128 => (if t128 = true then (if (l0_2.length : Int) > 16 then (some 10) else (zone_Validate.l0 k l0_2 (l0_2.length : Int) 0 a0_0 a0_1 l0_2)) else (some 5))) else (some 1)) = some r := H
 have A2 := Aside0.mk A20
 clear A20
 by_cases c3 : t127 = true
 ·subst c3
  have H1 : ((zone_offsetOK.f a0_1).bind fun t128 => (if t128 = true then (if (l0_2.length : Int) > 16 then (some 10) else (zone_Validate.l0 k l0_2 (l0_2.length : Int) 0 a0_0 a0_1 l0_2)) else (some 5))) = some r := by rw [if_pos rfl] at H; exact H
  clear H
  have H := H1
  clear H1
  replace H := Option.bind_eq_some_iff.mp H
  obtain ⟨t128, A40, H⟩ := H
  replace H : (if t128 = true then (if (l0_2.length : Int) > 16 then (some 10) else (zone_Validate.l0 k l0_2 (l0_2.length : Int) 0 a0_0 a0_1 l0_2)) else (some 5)) = some r := H
  have A4 := Aside0.mk A40
  clear A40
  by_cases c5 : t128 = true
  ·subst c5
   have H1 : (if (l0_2.length : Int) > 16 then (some 10) else (zone_Validate.l0 k l0_2 (l0_2.length : Int) 0 a0_0 a0_1 l0_2)) = some r := by rw [if_pos rfl] at H; exact H
   clear H
   have H := H1
   clear H1
   by_cases c6 : (l0_2.length : Int) > 16
   ·rw [if_pos c6] at H
    have c6b0 : decide (16 < (l0_2.length : Int)) = true := decide_eq_true c6
    have c6b1 : decide (16 < l0_2.length) = true := decide_eq_true (by omega)
    clear c6
    obtain rfl := Option.some.inj H
    go_enter Tryz.func72, Tryz.ntmps72
    go_wp2_with (first | ((with_reducible refine gate_dst (N := 1) rfl ?_); refine box_event ?hg (N := 1) ?hd (cs := #[.string a0_0, .int .i64 a0_1, .slice A0_2 l0_2.length c0_2]) (t := 83) ?hr ?_; (case hd => rfl); (case hg => rfl); (case hr => first | (go_simp; done) | (go_simp; rfl)); intro gb126 hg w7 hbox hb; have BK126 := Aside0.mk hbox; have GE126 := Aside0.mk ((by rw [hg]; exact (below_size hbk) : w.heap.size ≤ gb126)); replace HB := Aside0.mk (below_step hbk hb); clear hb hbox hg; obtain ⟨hcz8_0, hcz8_1, hcz8_2⟩ := blk_cs3 BK126.out; obtain ⟨hfz8_0, hfz8_1, hfz8_2⟩ := blk_fs3 BK126.out) | (go_at_call 92; (with_reducible refine (text_IsName.calls a0_0 true _ A2.out).mono ?_); rintro e w' ⟨rfl, ⟨nd, rfl⟩⟩; (try first | exact ⟨rfl, _, World.drewN_drewN _ _ _⟩ | exact ⟨rfl, _, Eq.trans (World.drewN_drewN _ _ _) (congrArg (World.drewN _) (Nat.add_assoc _ _ _))⟩)) | (go_at_call 93; (with_reducible refine (zone_offsetOK.calls a0_1 true _ A4.out).mono ?_); rintro e w' ⟨rfl, ⟨nd, rfl⟩⟩; (try first | exact ⟨rfl, _, World.drewN_drewN _ _ _⟩ | exact ⟨rfl, _, Eq.trans (World.drewN_drewN _ _ _) (congrArg (World.drewN _) (Nat.add_assoc _ _ _))⟩)))
    repeat (go_quiet (first | ((with_reducible refine gate_dst (N := 1) rfl ?_); refine box_event ?hg (N := 1) ?hd (cs := #[.string a0_0, .int .i64 a0_1, .slice A0_2 l0_2.length c0_2]) (t := 83) ?hr ?_; (case hd => rfl); (case hg => rfl); (case hr => first | (go_simp; done) | (go_simp; rfl)); intro gb126 hg w7 hbox hb; have BK126 := Aside0.mk hbox; have GE126 := Aside0.mk ((by rw [hg]; exact (below_size hbk) : w.heap.size ≤ gb126)); replace HB := Aside0.mk (below_step hbk hb); clear hb hbox hg; obtain ⟨hcz8_0, hcz8_1, hcz8_2⟩ := blk_cs3 BK126.out; obtain ⟨hfz8_0, hfz8_1, hfz8_2⟩ := blk_fs3 BK126.out) | (go_at_call 92; (with_reducible refine (text_IsName.calls a0_0 true _ A2.out).mono ?_); rintro e w' ⟨rfl, ⟨nd, rfl⟩⟩; (try first | exact ⟨rfl, _, World.drewN_drewN _ _ _⟩ | exact ⟨rfl, _, Eq.trans (World.drewN_drewN _ _ _) (congrArg (World.drewN _) (Nat.add_assoc _ _ _))⟩)) | (go_at_call 93; (with_reducible refine (zone_offsetOK.calls a0_1 true _ A4.out).mono ?_); rintro e w' ⟨rfl, ⟨nd, rfl⟩⟩; (try first | exact ⟨rfl, _, World.drewN_drewN _ _ _⟩ | exact ⟨rfl, _, Eq.trans (World.drewN_drewN _ _ _) (congrArg (World.drewN _) (Nat.add_assoc _ _ _))⟩))); try go_wp2_with (first | ((with_reducible refine gate_dst (N := 1) rfl ?_); refine box_event ?hg (N := 1) ?hd (cs := #[.string a0_0, .int .i64 a0_1, .slice A0_2 l0_2.length c0_2]) (t := 83) ?hr ?_; (case hd => rfl); (case hg => rfl); (case hr => first | (go_simp; done) | (go_simp; rfl)); intro gb126 hg w7 hbox hb; have n0_ := Aside0.mk (below_step hbk hb); have n1_ := Aside0.mk hbox; have n2_ := Aside0.mk ((by rw [hg]; exact (below_size hbk) : w.heap.size ≤ gb126)); have n3_ := Aside0.mk ((by rw [hg]; exact (below_size hbk) : w.heap.size ≤ gb126)); clear HB; have HB := n0_; have BK126 := n1_; have GW126 := n2_; have GE126 := n3_; clear n0_ n1_ n2_ n3_; clear hb hbox hg; obtain ⟨hcz8_0, hcz8_1, hcz8_2⟩ := blk_cs3 BK126.out; obtain ⟨hfz8_0, hfz8_1, hfz8_2⟩ := blk_fs3 BK126.out) | (go_at_call 92; (with_reducible refine (text_IsName.calls a0_0 true _ A2.out).mono ?_); rintro e w' ⟨rfl, ⟨nd, rfl⟩⟩; (try first | exact ⟨rfl, _, World.drewN_drewN _ _ _⟩ | exact ⟨rfl, _, Eq.trans (World.drewN_drewN _ _ _) (congrArg (World.drewN _) (Nat.add_assoc _ _ _))⟩)) | (go_at_call 93; (with_reducible refine (zone_offsetOK.calls a0_1 true _ A4.out).mono ?_); rintro e w' ⟨rfl, ⟨nd, rfl⟩⟩; (try first | exact ⟨rfl, _, World.drewN_drewN _ _ _⟩ | exact ⟨rfl, _, Eq.trans (World.drewN_drewN _ _ _) (congrArg (World.drewN _) (Nat.add_assoc _ _ _))⟩))))
    go_ret
    exact ⟨hrf, hbk⟩
   ·rw [if_neg c6] at H
    have c6b0 : decide (16 < (l0_2.length : Int)) = false := decide_eq_false c6
    have c6b1 : decide (16 < l0_2.length) = false := decide_eq_false (by omega)
    clear c6
    have H' := Aside0.mk H
    clear H
    go_enter Tryz.func72, Tryz.ntmps72
    go_wp2_with (first | ((with_reducible refine gate_dst (N := 1) rfl ?_); refine box_event ?hg (N := 1) ?hd (cs := #[.string a0_0, .int .i64 a0_1, .slice A0_2 l0_2.length c0_2]) (t := 83) ?hr ?_; (case hd => rfl); (case hg => rfl); (case hr => first | (go_simp; done) | (go_simp; rfl)); intro gb126 hg w9 hbox hb; have BK126 := Aside0.mk hbox; have GE126 := Aside0.mk ((by rw [hg]; exact (below_size hbk) : w.heap.size ≤ gb126)); replace HB := Aside0.mk (below_step hbk hb); clear hb hbox hg; obtain ⟨hcz10_0, hcz10_1, hcz10_2⟩ := blk_cs3 BK126.out; obtain ⟨hfz10_0, hfz10_1, hfz10_2⟩ := blk_fs3 BK126.out) | (go_at_call 92; (with_reducible refine (text_IsName.calls a0_0 true _ A2.out).mono ?_); rintro e w' ⟨rfl, ⟨nd, rfl⟩⟩; (try first | exact ⟨rfl, _, World.drewN_drewN _ _ _⟩ | exact ⟨rfl, _, Eq.trans (World.drewN_drewN _ _ _) (congrArg (World.drewN _) (Nat.add_assoc _ _ _))⟩)) | (go_at_call 93; (with_reducible refine (zone_offsetOK.calls a0_1 true _ A4.out).mono ?_); rintro e w' ⟨rfl, ⟨nd, rfl⟩⟩; (try first | exact ⟨rfl, _, World.drewN_drewN _ _ _⟩ | exact ⟨rfl, _, Eq.trans (World.drewN_drewN _ _ _) (congrArg (World.drewN _) (Nat.add_assoc _ _ _))⟩)))
    repeat (go_quiet (first | ((with_reducible refine gate_dst (N := 1) rfl ?_); refine box_event ?hg (N := 1) ?hd (cs := #[.string a0_0, .int .i64 a0_1, .slice A0_2 l0_2.length c0_2]) (t := 83) ?hr ?_; (case hd => rfl); (case hg => rfl); (case hr => first | (go_simp; done) | (go_simp; rfl)); intro gb126 hg w9 hbox hb; have BK126 := Aside0.mk hbox; have GE126 := Aside0.mk ((by rw [hg]; exact (below_size hbk) : w.heap.size ≤ gb126)); replace HB := Aside0.mk (below_step hbk hb); clear hb hbox hg; obtain ⟨hcz10_0, hcz10_1, hcz10_2⟩ := blk_cs3 BK126.out; obtain ⟨hfz10_0, hfz10_1, hfz10_2⟩ := blk_fs3 BK126.out) | (go_at_call 92; (with_reducible refine (text_IsName.calls a0_0 true _ A2.out).mono ?_); rintro e w' ⟨rfl, ⟨nd, rfl⟩⟩; (try first | exact ⟨rfl, _, World.drewN_drewN _ _ _⟩ | exact ⟨rfl, _, Eq.trans (World.drewN_drewN _ _ _) (congrArg (World.drewN _) (Nat.add_assoc _ _ _))⟩)) | (go_at_call 93; (with_reducible refine (zone_offsetOK.calls a0_1 true _ A4.out).mono ?_); rintro e w' ⟨rfl, ⟨nd, rfl⟩⟩; (try first | exact ⟨rfl, _, World.drewN_drewN _ _ _⟩ | exact ⟨rfl, _, Eq.trans (World.drewN_drewN _ _ _) (congrArg (World.drewN _) (Nat.add_assoc _ _ _))⟩))); try go_wp2_with (first | ((with_reducible refine gate_dst (N := 1) rfl ?_); refine box_event ?hg (N := 1) ?hd (cs := #[.string a0_0, .int .i64 a0_1, .slice A0_2 l0_2.length c0_2]) (t := 83) ?hr ?_; (case hd => rfl); (case hg => rfl); (case hr => first | (go_simp; done) | (go_simp; rfl)); intro gb126 hg w9 hbox hb; have n0_ := Aside0.mk (below_step hbk hb); have n1_ := Aside0.mk hbox; have n2_ := Aside0.mk ((by rw [hg]; exact (below_size hbk) : w.heap.size ≤ gb126)); have n3_ := Aside0.mk ((by rw [hg]; exact (below_size hbk) : w.heap.size ≤ gb126)); clear HB; have HB := n0_; have BK126 := n1_; have GW126 := n2_; have GE126 := n3_; clear n0_ n1_ n2_ n3_; clear hb hbox hg; obtain ⟨hcz10_0, hcz10_1, hcz10_2⟩ := blk_cs3 BK126.out; obtain ⟨hfz10_0, hfz10_1, hfz10_2⟩ := blk_fs3 BK126.out) | (go_at_call 92; (with_reducible refine (text_IsName.calls a0_0 true _ A2.out).mono ?_); rintro e w' ⟨rfl, ⟨nd, rfl⟩⟩; (try first | exact ⟨rfl, _, World.drewN_drewN _ _ _⟩ | exact ⟨rfl, _, Eq.trans (World.drewN_drewN _ _ _) (congrArg (World.drewN _) (Nat.add_assoc _ _ _))⟩)) | (go_at_call 93; (with_reducible refine (zone_offsetOK.calls a0_1 true _ A4.out).mono ?_); rintro e w' ⟨rfl, ⟨nd, rfl⟩⟩; (try first | exact ⟨rfl, _, World.drewN_drewN _ _ _⟩ | exact ⟨rfl, _, Eq.trans (World.drewN_drewN _ _ _) (congrArg (World.drewN _) (Nat.add_assoc _ _ _))⟩))))
    go_loopg [23] k (fun kq v23 w' => ∃ (x23_1 : Int), v23 = .int .i64 x23_1 ∧ Aside0 (zone_Validate.l0 kq l0_2 (l0_2.length : Int) x23_1 a0_0 a0_1 l0_2 = some r) ∧ Aside0 (kq ≤ k) ∧ Aside0 (w'.heap[gb126]? = some (.cells #[.string a0_0, .int .i64 a0_1, (.slice A0_2 l0_2.length c0_2)] 83 (0, 0))) ∧ Aside0 (Below w.heap.size w w'))
    case atStart => exact ⟨(0), (by first | rfl | (simp; done) | (simp [*]; done)), H', ⟨Nat.le_refl _⟩, ⟨by (with_reducible repeat (first | refine blk_drewN ?_ _ | refine blk_drew ?_ | refine blk_alloc ?_ _)); exact BK126.out⟩, ⟨hbk⟩⟩
    case round =>
     clear H'
     try clear p2
     try clear c3
     try clear c5
     try clear c6
     try clear c6b0
     try clear c6b1
     try clear c7
     try clear hcz10_0
     try clear hcz10_1
     try clear hcz10_2
     try clear hcz8_0
     try clear hcz8_1
     try clear hcz8_2
     try clear hfz10_0
     try clear hfz10_1
     try clear hfz10_2
     try clear hfz8_0
     try clear hfz8_1
     try clear hfz8_2
     obtain ⟨x23_1, rfl, HA, HK1, BK126, HB⟩ := hrel
     cases gk with
     | zero => exact absurd HA.out (by simp [zone_Validate.l0])
     | succ k1 =>
      have H := HA.out
      clear HA
      simp only [zone_Validate.l0] at H
      by_cases c11 : x23_1 < (l0_2.length : Int)
      ·rw [if_pos c11] at H
       have c11b0 : decide (x23_1 < (l0_2.length : Int)) = true := decide_eq_true c11
       clear c11
       by_cases c12 : 0 ≤ x23_1
       ·rw [if_pos c12] at H
        have c12b0 : decide (0 ≤ x23_1) = true := decide_eq_true c12
        clear c12
        by_cases c13 : x23_1 < (l0_2.length : Int)
        ·rw [if_pos c13] at H
         have c13b0 : decide (x23_1 < (l0_2.length : Int)) = true := decide_eq_true c13
         clear c13
         have HC14 := Aside0.mk H
         clear H
         have p129 : 0 ≤ (x23_1 : Int) := of_decide_eq_true (by first | (with_reducible assumption) | assumption)
         have q129 : x23_1 < (l0_2.length : Int) := of_decide_eq_true (by first | (with_reducible assumption) | assumption)
         obtain ⟨ad129, e129, hx129_0, hx129_1⟩ := at_T120 HR0_2.out x23_1 p129 q129
         cases e129
         replace hx129_0 := (HB.out.cell (World.block_lt_of_cell? w _ hx129_0)).trans hx129_0
         replace hx129_1 := (HB.out.cell (World.block_lt_of_cell? w _ hx129_1)).trans hx129_1
         replace p129 := eq_true p129
         replace q129 := eq_true q129
         go_upto_region 10 with (first | ((with_reducible refine gate_dst (N := 4) rfl ?_); refine box_event ?hg (N := 4) ?hd (cs := #[.int .i64 0, .int .i64 0]) (t := 120) ?hr ?_; (case hd => rfl); (case hg => rfl); (case hr => first | (go_simp; done) | (go_simp; rfl)); intro gb130 hg w15 hbox hb; have BK130 := Aside0.mk hbox; have GE130 := Aside0.mk ((by rw [hg]; exact (below_size hbk) : w.heap.size ≤ gb130)); have NB126_130 := Aside0.mk ((by rw [hg]; exact Nat.ne_of_lt (blk_ltB BK126.out) : gb126 ≠ gb130)); have NB130_126 := Aside0.mk ((by rw [hg]; exact Nat.ne_of_gt (blk_ltB BK126.out) : gb130 ≠ gb126)); replace BK126 := Aside0.mk (blk_belowB BK126.out hb); replace HB := Aside0.mk (below_step hbk hb); clear hb hbox hg; have hnb16 := NB130_126.out; have hnc16 := NB126_130.out; obtain ⟨hcz17_0, hcz17_1⟩ := blk_cs2 BK130.out; obtain ⟨hfz17_0, hfz17_1⟩ := blk_fs2 BK130.out))
         repeat (go_quiet (first | ((with_reducible refine gate_dst (N := 4) rfl ?_); refine box_event ?hg (N := 4) ?hd (cs := #[.int .i64 0, .int .i64 0]) (t := 120) ?hr ?_; (case hd => rfl); (case hg => rfl); (case hr => first | (go_simp; done) | (go_simp; rfl)); intro gb130 hg w15 hbox hb; have BK130 := Aside0.mk hbox; have GE130 := Aside0.mk ((by rw [hg]; exact (below_size hbk) : w.heap.size ≤ gb130)); have NB126_130 := Aside0.mk ((by rw [hg]; exact Nat.ne_of_lt (blk_ltB BK126.out) : gb126 ≠ gb130)); have NB130_126 := Aside0.mk ((by rw [hg]; exact Nat.ne_of_gt (blk_ltB BK126.out) : gb130 ≠ gb126)); replace BK126 := Aside0.mk (blk_belowB BK126.out hb); replace HB := Aside0.mk (below_step hbk hb); clear hb hbox hg; have hnb16 := NB130_126.out; have hnc16 := NB126_130.out; obtain ⟨hcz17_0, hcz17_1⟩ := blk_cs2 BK130.out; obtain ⟨hfz17_0, hfz17_1⟩ := blk_fs2 BK130.out)); go_upto_region 10 with (first | ((with_reducible refine gate_dst (N := 4) rfl ?_); refine box_event ?hg (N := 4) ?hd (cs := #[.int .i64 0, .int .i64 0]) (t := 120) ?hr ?_; (case hd => rfl); (case hg => rfl); (case hr => first | (go_simp; done) | (go_simp; rfl)); intro gb130 hg w15 hbox hb; have n0_ := Aside0.mk (blk_belowB BK126.out hb); have n1_ := Aside0.mk (below_step hbk hb); have n2_ := Aside0.mk hbox; have n3_ := Aside0.mk ((by rw [hg]; exact (below_size hbk) : w.heap.size ≤ gb130)); have n4_ := Aside0.mk ((by rw [hg]; exact (below_size hbk) : w.heap.size ≤ gb130)); have n5_ := Aside0.mk ((by rw [hg]; exact Nat.ne_of_lt (blk_ltB BK126.out) : gb126 ≠ gb130)); have n6_ := Aside0.mk ((by rw [hg]; exact Nat.ne_of_gt (blk_ltB BK126.out) : gb130 ≠ gb126)); clear BK126; clear HB; have BK126 := n0_; have HB := n1_; have BK130 := n2_; have GW130 := n3_; have GE130 := n4_; have NB126_130 := n5_; have NB130_126 := n6_; clear n0_ n1_ n2_ n3_ n4_ n5_ n6_; clear hb hbox hg; have hnb16 := NB130_126.out; have hnc16 := NB126_130.out; obtain ⟨hcz17_0, hcz17_1⟩ := blk_cs2 BK130.out; obtain ⟨hfz17_0, hfz17_1⟩ := blk_fs2 BK130.out)))
         (try simp only [Act.put, List.setIfInBounds_toArray, List.set_cons_zero, List.set_cons_succ])
         go_cut [41] (fun v41 wc => ∃ (kq : Nat) (x41_13 : Bool), v41 = .bool x41_13 ∧ Aside0 (zone_Validate.j1 kq x23_1 l0_2 (l0_2.length : Int) x23_1 x41_13 a0_0 a0_1 l0_2 ((rd_T120 l0_2 x23_1).f0) ((rd_T120 l0_2 x23_1).f1) = some r) ∧ Aside0 (kq ≤ k1) ∧ Aside0 (wc.heap[gb126]? = some (.cells #[.string a0_0, .int .i64 a0_1, (.slice (some ad129) l0_2.length c0_2)] 83 (0, 0))) ∧ Aside0 (wc.heap[gb130]? = some (.cells #[.int .i64 ((rd_T120 l0_2 x23_1).f0), .int .i64 ((rd_T120 l0_2 x23_1).f1)] 120 (0, 0))) ∧ Aside0 (Below w.heap.size w wc))
         case first =>
          have H := HC14.out
          clear HC14
          by_cases c18 : ((rd_T120 l0_2 x23_1).f0) < 0
          ·rw [if_pos c18] at H
           have c18b0 : decide (((rd_T120 l0_2 x23_1).f0) < 0) = true := decide_eq_true c18
           clear c18
           (first | rw [c18b0] | (simp only [i64_w, i32_w]; rw [c18b0]) | skip)
           have H' := Aside0.mk H
           clear H
           have hnb19 := NB130_126.out
           have hnc19 := NB126_130.out
           obtain ⟨hcz20_0, hcz20_1⟩ := blk_cs2 BK130.out
           obtain ⟨hfz20_0, hfz20_1⟩ := blk_fs2 BK130.out
           go_wp2
           repeat (go_quiet (fail); try go_wp2)
           go_meet
           case rel => exact ⟨_, (true), (by first | rfl | (simp; done) | (simp [*]; done)), H', ⟨by have := HK1.out; first | omega | exact Nat.le_refl _⟩, ⟨by (with_reducible repeat (first | refine blk_drewN ?_ _ | refine blk_drew ?_ | refine blk_alloc ?_ _)); refine blk_far ?_ NB126_130.out _; refine blk_far ?_ NB126_130.out _; (with_reducible repeat (first | refine blk_drewN ?_ _ | refine blk_drew ?_ | refine blk_alloc ?_ _)); exact BK126.out⟩, ⟨by (with_reducible repeat (first | refine blk_drewN ?_ _ | refine blk_drew ?_ | refine blk_alloc ?_ _)); refine blk_put (cs := #[.int .i64 ((rd_T120 l0_2 x23_1).f0), .int .i64 0]) ?_ 1 _ rfl; refine blk_put (cs := #[.int .i64 0, .int .i64 0]) ?_ 0 _ rfl; (with_reducible repeat (first | refine blk_drewN ?_ _ | refine blk_drew ?_ | refine blk_alloc ?_ _)); exact BK130.out⟩, ⟨hbk⟩⟩
          ·rw [if_neg c18] at H
           have c18b0 : decide (((rd_T120 l0_2 x23_1).f0) < 0) = false := decide_eq_false c18
           clear c18
           (first | rw [c18b0] | (simp only [i64_w, i32_w]; rw [c18b0]) | skip)
           by_cases c21 : ((rd_T120 l0_2 x23_1).f0) ≥ 52596000
           ·rw [if_pos c21] at H
            have c21b0 : decide (52596000 ≤ ((rd_T120 l0_2 x23_1).f0)) = true := decide_eq_true c21
            clear c21
            have H' := Aside0.mk H
            clear H
            have hnb22 := NB130_126.out
            have hnc22 := NB126_130.out
            obtain ⟨hcz23_0, hcz23_1⟩ := blk_cs2 BK130.out
            obtain ⟨hfz23_0, hfz23_1⟩ := blk_fs2 BK130.out
            go_wp2
            repeat (go_quiet (fail); try go_wp2)
            go_meet
            case rel => exact ⟨_, (true), (by first | rfl | (simp; done) | (simp [*]; done)), H', ⟨by have := HK1.out; first | omega | exact Nat.le_refl _⟩, ⟨by (with_reducible repeat (first | refine blk_drewN ?_ _ | refine blk_drew ?_ | refine blk_alloc ?_ _)); refine blk_far ?_ NB126_130.out _; refine blk_far ?_ NB126_130.out _; (with_reducible repeat (first | refine blk_drewN ?_ _ | refine blk_drew ?_ | refine blk_alloc ?_ _)); exact BK126.out⟩, ⟨by (with_reducible repeat (first | refine blk_drewN ?_ _ | refine blk_drew ?_ | refine blk_alloc ?_ _)); refine blk_put (cs := #[.int .i64 ((rd_T120 l0_2 x23_1).f0), .int .i64 0]) ?_ 1 _ rfl; refine blk_put (cs := #[.int .i64 0, .int .i64 0]) ?_ 0 _ rfl; (with_reducible repeat (first | refine blk_drewN ?_ _ | refine blk_drew ?_ | refine blk_alloc ?_ _)); exact BK130.out⟩, ⟨hbk⟩⟩
           ·rw [if_neg c21] at H
            have c21b0 : decide (52596000 ≤ ((rd_T120 l0_2 x23_1).f0)) = false := decide_eq_false c21
            clear c21
            replace H := Option.bind_eq_some_iff.mp H
            obtain ⟨t131, A240, H⟩ := H
            replace H : (zone_Validate.j1 k1 x23_1 l0_2 (l0_2.length : Int) x23_1 (!t131) a0_0 a0_1 l0_2 ((rd_T120 l0_2 x23_1).f0) ((rd_T120 l0_2 x23_1).f1)) = some r := H
            have A24 := Aside0.mk A240
            clear A240
            have H' := Aside0.mk H
            clear H
            have hnb25 := NB130_126.out
            have hnc25 := NB126_130.out
            obtain ⟨hcz26_0, hcz26_1⟩ := blk_cs2 BK130.out
            obtain ⟨hfz26_0, hfz26_1⟩ := blk_fs2 BK130.out
            go_wp2_with (first | (go_at_call 93; (with_reducible refine (zone_offsetOK.calls ((rd_T120 l0_2 x23_1).f1) t131 _ A24.out).mono ?_); rintro e w' ⟨rfl, ⟨nd, rfl⟩⟩; (try first | exact ⟨rfl, _, World.drewN_drewN _ _ _⟩ | exact ⟨rfl, _, Eq.trans (World.drewN_drewN _ _ _) (congrArg (World.drewN _) (Nat.add_assoc _ _ _))⟩)))
            repeat (go_quiet (first | (go_at_call 93; (with_reducible refine (zone_offsetOK.calls ((rd_T120 l0_2 x23_1).f1) t131 _ A24.out).mono ?_); rintro e w' ⟨rfl, ⟨nd, rfl⟩⟩; (try first | exact ⟨rfl, _, World.drewN_drewN _ _ _⟩ | exact ⟨rfl, _, Eq.trans (World.drewN_drewN _ _ _) (congrArg (World.drewN _) (Nat.add_assoc _ _ _))⟩))); try go_wp2_with (first | (go_at_call 93; (with_reducible refine (zone_offsetOK.calls ((rd_T120 l0_2 x23_1).f1) t131 _ A24.out).mono ?_); rintro e w' ⟨rfl, ⟨nd, rfl⟩⟩; (try first | exact ⟨rfl, _, World.drewN_drewN _ _ _⟩ | exact ⟨rfl, _, Eq.trans (World.drewN_drewN _ _ _) (congrArg (World.drewN _) (Nat.add_assoc _ _ _))⟩))))
            go_meet
            case rel => exact ⟨_, (!t131), (by first | rfl | (simp; done) | (simp [*]; done)), H', ⟨by have := HK1.out; first | omega | exact Nat.le_refl _⟩, ⟨by (with_reducible repeat (first | refine blk_drewN ?_ _ | refine blk_drew ?_ | refine blk_alloc ?_ _)); refine blk_far ?_ NB126_130.out _; refine blk_far ?_ NB126_130.out _; (with_reducible repeat (first | refine blk_drewN ?_ _ | refine blk_drew ?_ | refine blk_alloc ?_ _)); exact BK126.out⟩, ⟨by (with_reducible repeat (first | refine blk_drewN ?_ _ | refine blk_drew ?_ | refine blk_alloc ?_ _)); refine blk_put (cs := #[.int .i64 ((rd_T120 l0_2 x23_1).f0), .int .i64 0]) ?_ 1 _ rfl; refine blk_put (cs := #[.int .i64 0, .int .i64 0]) ?_ 0 _ rfl; (with_reducible repeat (first | refine blk_drewN ?_ _ | refine blk_drew ?_ | refine blk_alloc ?_ _)); exact BK130.out⟩, ⟨hbk⟩⟩
         case rest =>
          clear HC14
          try clear c1
          try clear p1
          try clear q1
          try clear hx1
          try clear c2
          try clear p2
          try clear c3
          try clear c5
          try clear c6
          try clear c6b0
          try clear c6b1
          try clear c7
          try clear c11
          try clear c11b0
          try clear c12
          try clear c12b0
          try clear p12
          try clear q12
          try clear hx12
          try clear c13
          try clear c13b0
          try clear c16
          try clear c18
          try clear c18b0
          try clear c19
          try clear c21
          try clear c21b0
          try clear c22
          try clear c25
          try clear hcz10_0
          try clear hcz10_1
          try clear hcz10_2
          try clear hcz17_0
          try clear hcz17_1
          try clear hcz20_0
          try clear hcz20_1
          try clear hcz23_0
          try clear hcz23_1
          try clear hcz26_0
          try clear hcz26_1
          try clear hcz8_0
          try clear hcz8_1
          try clear hcz8_2
          try clear hfz10_0
          try clear hfz10_1
          try clear hfz10_2
          try clear hfz17_0
          try clear hfz17_1
          try clear hfz20_0
          try clear hfz20_1
          try clear hfz23_0
          try clear hfz23_1
          try clear hfz26_0
          try clear hfz26_1
          try clear hfz8_0
          try clear hfz8_1
          try clear hfz8_2
          try clear hx129_0
          try clear hx129_1
          try clear p129
          try clear p2
          try clear q129
          obtain ⟨kq, x41_13, rfl, HA, HJ13, BK126, BK130, HB⟩ := hcut
          cases kq with
          | zero => exact absurd HA.out (by simp [zone_Validate.j1])
          | succ kj13 =>
           have H := HA.out
           clear HA
           simp only [zone_Validate.j1] at H
           by_cases c27 : x41_13 = true
           ·subst c27
            have H1 : (some 5) = some r := by rw [if_pos rfl] at H; exact H
            clear H
            have H := H1
            clear H1
            obtain rfl := Option.some.inj H
            go_wp2
            repeat (go_quiet (fail); try go_wp2)
            go_ret
            exact ⟨hrf, hbk⟩
           ·replace c27 := Bool.eq_false_iff.mpr c27
            subst c27
            have H1 : (if x23_1 > 0 then (if 0 ≤ (wrap64 (x23_1 - 1)) then (if (wrap64 (x23_1 - 1)) < (l0_2.length : Int) then (if ((rd_T120 l0_2 x23_1).f0) ≤ ((rd_T120 l0_2 (wrap64 (x23_1 - 1))).f0) then (some 8) else (zone_Validate.l0 kj13 l0_2 (l0_2.length : Int) (wrap64 (x23_1 + 1)) a0_0 a0_1 l0_2)) else (none)) else (none)) else (zone_Validate.l0 kj13 l0_2 (l0_2.length : Int) (wrap64 (x23_1 + 1)) a0_0 a0_1 l0_2)) = some r := by rw [if_neg (show ¬ (false = true) by decide)] at H; exact H
            clear H
            have H := H1
            clear H1
            by_cases c28 : x23_1 > 0
            ·rw [if_pos c28] at H
             have c28b0 : decide (0 < x23_1) = true := decide_eq_true c28
             clear c28
             obtain ⟨ji29, hji29⟩ : ∃ j_ : Int, (wrap64 (x23_1 - 1)) = j_ := ⟨_, rfl⟩
             replace H : (if 0 ≤ (ji29) then (if (ji29) < (l0_2.length : Int) then (if ((rd_T120 l0_2 x23_1).f0) ≤ ((rd_T120 l0_2 (ji29)).f0) then (some 8) else (zone_Validate.l0 kj13 l0_2 (l0_2.length : Int) (wrap64 (x23_1 + 1)) a0_0 a0_1 l0_2)) else (none)) else (none)) = some r := by first | (rw [hji29] at H; exact H) | (simp only [hji29] at H ⊢; exact H)
             have hji29w : (IntKind.i64.wrap (x23_1 - 1)) = ji29 := (i64_w _).trans hji29
             by_cases c30 : 0 ≤ (ji29)
             ·rw [if_pos c30] at H
              have c30b0 : decide (0 ≤ (ji29)) = true := decide_eq_true c30
              clear c30
              by_cases c31 : (ji29) < (l0_2.length : Int)
              ·rw [if_pos c31] at H
               have c31b0 : decide ((ji29) < (l0_2.length : Int)) = true := decide_eq_true c31
               clear c31
               by_cases c32 : ((rd_T120 l0_2 x23_1).f0) ≤ ((rd_T120 l0_2 (ji29)).f0)
               ·rw [if_pos c32] at H
                have c32b0 : decide (((rd_T120 l0_2 x23_1).f0) ≤ ((rd_T120 l0_2 (ji29)).f0)) = true := decide_eq_true c32
                clear c32
                obtain rfl := Option.some.inj H
                have hnb33 := NB130_126.out
                have hnc33 := NB126_130.out
                obtain ⟨hcz34_0, hcz34_1⟩ := blk_cs2 BK130.out
                obtain ⟨hfz34_0, hfz34_1⟩ := blk_fs2 BK130.out
                obtain ⟨hcz35_0, hcz35_1, hcz35_2⟩ := blk_cs3 BK126.out
                obtain ⟨hfz35_0, hfz35_1, hfz35_2⟩ := blk_fs3 BK126.out
                have p132 : 0 ≤ ((ji29) : Int) := of_decide_eq_true (by first | (with_reducible assumption) | assumption)
                have q132 : (ji29) < (l0_2.length : Int) := of_decide_eq_true (by first | (with_reducible assumption) | assumption)
                obtain ⟨ad132, e132, hx132_0, hx132_1⟩ := at_T120 HR0_2.out (ji29) p132 q132
                obtain rfl : ad129 = ad132 := (by injection e132)
                replace hx132_0 := (HB.out.cell (World.block_lt_of_cell? w _ hx132_0)).trans hx132_0
                replace hx132_1 := (HB.out.cell (World.block_lt_of_cell? w _ hx132_1)).trans hx132_1
                replace p132 := eq_true p132
                replace q132 := eq_true q132
                go_wp2
                repeat (go_quiet (fail); try go_wp2)
                go_ret
                exact ⟨by first | rfl | (simp [errW_none, errW_some] <;> rfl) | (simp only [← hji29]; first | rfl | (simp [errW_none, errW_some] <;> rfl)) | (simp [*, errW_none, errW_some] <;> rfl), hbk⟩
               ·rw [if_neg c32] at H
                have c32b0 : decide (((rd_T120 l0_2 x23_1).f0) ≤ ((rd_T120 l0_2 (ji29)).f0)) = false := decide_eq_false c32
                clear c32
                have H' := Aside0.mk H
                clear H
                have hnb36 := NB130_126.out
                have hnc36 := NB126_130.out
                obtain ⟨hcz37_0, hcz37_1⟩ := blk_cs2 BK130.out
                obtain ⟨hfz37_0, hfz37_1⟩ := blk_fs2 BK130.out
                obtain ⟨hcz38_0, hcz38_1, hcz38_2⟩ := blk_cs3 BK126.out
                obtain ⟨hfz38_0, hfz38_1, hfz38_2⟩ := blk_fs3 BK126.out
                have p132 : 0 ≤ ((ji29) : Int) := of_decide_eq_true (by first | (with_reducible assumption) | assumption)
                have q132 : (ji29) < (l0_2.length : Int) := of_decide_eq_true (by first | (with_reducible assumption) | assumption)
                obtain ⟨ad132, e132, hx132_0, hx132_1⟩ := at_T120 HR0_2.out (ji29) p132 q132
                obtain rfl : ad129 = ad132 := (by injection e132)
                replace hx132_0 := (HB.out.cell (World.block_lt_of_cell? w _ hx132_0)).trans hx132_0
                replace hx132_1 := (HB.out.cell (World.block_lt_of_cell? w _ hx132_1)).trans hx132_1
                replace p132 := eq_true p132
                replace q132 := eq_true q132
                go_wp2
                repeat (go_quiet (fail); try go_wp2)
                go_roundg kj13
                case measure => have := HK1.out; have := HJ13.out; omega
                case rel => exact ⟨(wrap64 (x23_1 + 1)), (by first | rfl | (simp; done) | (simp [*]; done)), H', ⟨by have := HK1.out; have := HJ13.out; omega⟩, ⟨by (with_reducible repeat (first | refine blk_drewN ?_ _ | refine blk_drew ?_ | refine blk_alloc ?_ _)); exact BK126.out⟩, ⟨hbk⟩⟩
              ·rw [if_neg c31] at H
               exact absurd H (by simp)
             ·rw [if_neg c30] at H
              exact absurd H (by simp)
            ·rw [if_neg c28] at H
             have c28b0 : decide (0 < x23_1) = false := decide_eq_false c28
             clear c28
             have H' := Aside0.mk H
             clear H
             go_wp2
             repeat (go_quiet (fail); try go_wp2)
             go_roundg kj13
             case measure => have := HK1.out; have := HJ13.out; omega
             case rel => exact ⟨(wrap64 (x23_1 + 1)), (by first | rfl | (simp; done) | (simp [*]; done)), H', ⟨by have := HK1.out; have := HJ13.out; omega⟩, ⟨by (with_reducible repeat (first | refine blk_drewN ?_ _ | refine blk_drew ?_ | refine blk_alloc ?_ _)); exact BK126.out⟩, ⟨hbk⟩⟩
        ·rw [if_neg c13] at H
         exact absurd H (by simp)
       ·rw [if_neg c12] at H
        exact absurd H (by simp)
      ·rw [if_neg c11] at H
       have c11b0 : decide (x23_1 < (l0_2.length : Int)) = false := decide_eq_false c11
       clear c11
       obtain rfl := Option.some.inj H
       go_wp2
       repeat (go_quiet (fail); try go_wp2)
       go_ret
       exact ⟨hrf, hbk⟩
  ·replace c5 := Bool.eq_false_iff.mpr c5
   subst c5
   have H1 : (some 5) = some r := by rw [if_neg (show ¬ (false = true) by decide)] at H; exact H
   clear H
   have H := H1
   clear H1
   obtain rfl := Option.some.inj H
   go_enter Tryz.func72, Tryz.ntmps72
   go_wp2_with (first | ((with_reducible refine gate_dst (N := 1) rfl ?_); refine box_event ?hg (N := 1) ?hd (cs := #[.string a0_0, .int .i64 a0_1, .slice A0_2 l0_2.length c0_2]) (t := 83) ?hr ?_; (case hd => rfl); (case hg => rfl); (case hr => first | (go_simp; done) | (go_simp; rfl)); intro gb126 hg w39 hbox hb; have BK126 := Aside0.mk hbox; have GE126 := Aside0.mk ((by rw [hg]; exact (below_size hbk) : w.heap.size ≤ gb126)); replace HB := Aside0.mk (below_step hbk hb); clear hb hbox hg; obtain ⟨hcz40_0, hcz40_1, hcz40_2⟩ := blk_cs3 BK126.out; obtain ⟨hfz40_0, hfz40_1, hfz40_2⟩ := blk_fs3 BK126.out) | (go_at_call 92; (with_reducible refine (text_IsName.calls a0_0 true _ A2.out).mono ?_); rintro e w' ⟨rfl, ⟨nd, rfl⟩⟩; (try first | exact ⟨rfl, _, World.drewN_drewN _ _ _⟩ | exact ⟨rfl, _, Eq.trans (World.drewN_drewN _ _ _) (congrArg (World.drewN _) (Nat.add_assoc _ _ _))⟩)) | (go_at_call 93; (with_reducible refine (zone_offsetOK.calls a0_1 false _ A4.out).mono ?_); rintro e w' ⟨rfl, ⟨nd, rfl⟩⟩; (try first | exact ⟨rfl, _, World.drewN_drewN _ _ _⟩ | exact ⟨rfl, _, Eq.trans (World.drewN_drewN _ _ _) (congrArg (World.drewN _) (Nat.add_assoc _ _ _))⟩)))
   repeat (go_quiet (first | ((with_reducible refine gate_dst (N := 1) rfl ?_); refine box_event ?hg (N := 1) ?hd (cs := #[.string a0_0, .int .i64 a0_1, .slice A0_2 l0_2.length c0_2]) (t := 83) ?hr ?_; (case hd => rfl); (case hg => rfl); (case hr => first | (go_simp; done) | (go_simp; rfl)); intro gb126 hg w39 hbox hb; have BK126 := Aside0.mk hbox; have GE126 := Aside0.mk ((by rw [hg]; exact (below_size hbk) : w.heap.size ≤ gb126)); replace HB := Aside0.mk (below_step hbk hb); clear hb hbox hg; obtain ⟨hcz40_0, hcz40_1, hcz40_2⟩ := blk_cs3 BK126.out; obtain ⟨hfz40_0, hfz40_1, hfz40_2⟩ := blk_fs3 BK126.out) | (go_at_call 92; (with_reducible refine (text_IsName.calls a0_0 true _ A2.out).mono ?_); rintro e w' ⟨rfl, ⟨nd, rfl⟩⟩; (try first | exact ⟨rfl, _, World.drewN_drewN _ _ _⟩ | exact ⟨rfl, _, Eq.trans (World.drewN_drewN _ _ _) (congrArg (World.drewN _) (Nat.add_assoc _ _ _))⟩)) | (go_at_call 93; (with_reducible refine (zone_offsetOK.calls a0_1 false _ A4.out).mono ?_); rintro e w' ⟨rfl, ⟨nd, rfl⟩⟩; (try first | exact ⟨rfl, _, World.drewN_drewN _ _ _⟩ | exact ⟨rfl, _, Eq.trans (World.drewN_drewN _ _ _) (congrArg (World.drewN _) (Nat.add_assoc _ _ _))⟩))); try go_wp2_with (first | ((with_reducible refine gate_dst (N := 1) rfl ?_); refine box_event ?hg (N := 1) ?hd (cs := #[.string a0_0, .int .i64 a0_1, .slice A0_2 l0_2.length c0_2]) (t := 83) ?hr ?_; (case hd => rfl); (case hg => rfl); (case hr => first | (go_simp; done) | (go_simp; rfl)); intro gb126 hg w39 hbox hb; have n0_ := Aside0.mk (below_step hbk hb); have n1_ := Aside0.mk hbox; have n2_ := Aside0.mk ((by rw [hg]; exact (below_size hbk) : w.heap.size ≤ gb126)); have n3_ := Aside0.mk ((by rw [hg]; exact (below_size hbk) : w.heap.size ≤ gb126)); clear HB; have HB := n0_; have BK126 := n1_; have GW126 := n2_; have GE126 := n3_; clear n0_ n1_ n2_ n3_; clear hb hbox hg; obtain ⟨hcz40_0, hcz40_1, hcz40_2⟩ := blk_cs3 BK126.out; obtain ⟨hfz40_0, hfz40_1, hfz40_2⟩ := blk_fs3 BK126.out) | (go_at_call 92; (with_reducible refine (text_IsName.calls a0_0 true _ A2.out).mono ?_); rintro e w' ⟨rfl, ⟨nd, rfl⟩⟩; (try first | exact ⟨rfl, _, World.drewN_drewN _ _ _⟩ | exact ⟨rfl, _, Eq.trans (World.drewN_drewN _ _ _) (congrArg (World.drewN _) (Nat.add_assoc _ _ _))⟩)) | (go_at_call 93; (with_reducible refine (zone_offsetOK.calls a0_1 false _ A4.out).mono ?_); rintro e w' ⟨rfl, ⟨nd, rfl⟩⟩; (try first | exact ⟨rfl, _, World.drewN_drewN _ _ _⟩ | exact ⟨rfl, _, Eq.trans (World.drewN_drewN _ _ _) (congrArg (World.drewN _) (Nat.add_assoc _ _ _))⟩))))
   go_ret
   exact ⟨hrf, hbk⟩
 ·replace c3 := Bool.eq_false_iff.mpr c3
  subst c3
  have H1 : (some 1) = some r := by rw [if_neg (show ¬ (false = true) by decide)] at H; exact H
  clear H
  have H := H1
  clear H1
  obtain rfl := Option.some.inj H
  go_enter Tryz.func72, Tryz.ntmps72
  go_wp2_with (first | ((with_reducible refine gate_dst (N := 1) rfl ?_); refine box_event ?hg (N := 1) ?hd (cs := #[.string a0_0, .int .i64 a0_1, .slice A0_2 l0_2.length c0_2]) (t := 83) ?hr ?_; (case hd => rfl); (case hg => rfl); (case hr => first | (go_simp; done) | (go_simp; rfl)); intro gb126 hg w41 hbox hb; have BK126 := Aside0.mk hbox; have GE126 := Aside0.mk ((by rw [hg]; exact (below_size hbk) : w.heap.size ≤ gb126)); replace HB := Aside0.mk (below_step hbk hb); clear hb hbox hg; obtain ⟨hcz42_0, hcz42_1, hcz42_2⟩ := blk_cs3 BK126.out; obtain ⟨hfz42_0, hfz42_1, hfz42_2⟩ := blk_fs3 BK126.out) | (go_at_call 92; (with_reducible refine (text_IsName.calls a0_0 false _ A2.out).mono ?_); rintro e w' ⟨rfl, ⟨nd, rfl⟩⟩; (try first | exact ⟨rfl, _, World.drewN_drewN _ _ _⟩ | exact ⟨rfl, _, Eq.trans (World.drewN_drewN _ _ _) (congrArg (World.drewN _) (Nat.add_assoc _ _ _))⟩)))
  repeat (go_quiet (first | ((with_reducible refine gate_dst (N := 1) rfl ?_); refine box_event ?hg (N := 1) ?hd (cs := #[.string a0_0, .int .i64 a0_1, .slice A0_2 l0_2.length c0_2]) (t := 83) ?hr ?_; (case hd => rfl); (case hg => rfl); (case hr => first | (go_simp; done) | (go_simp; rfl)); intro gb126 hg w41 hbox hb; have BK126 := Aside0.mk hbox; have GE126 := Aside0.mk ((by rw [hg]; exact (below_size hbk) : w.heap.size ≤ gb126)); replace HB := Aside0.mk (below_step hbk hb); clear hb hbox hg; obtain ⟨hcz42_0, hcz42_1, hcz42_2⟩ := blk_cs3 BK126.out; obtain ⟨hfz42_0, hfz42_1, hfz42_2⟩ := blk_fs3 BK126.out) | (go_at_call 92; (with_reducible refine (text_IsName.calls a0_0 false _ A2.out).mono ?_); rintro e w' ⟨rfl, ⟨nd, rfl⟩⟩; (try first | exact ⟨rfl, _, World.drewN_drewN _ _ _⟩ | exact ⟨rfl, _, Eq.trans (World.drewN_drewN _ _ _) (congrArg (World.drewN _) (Nat.add_assoc _ _ _))⟩))); try go_wp2_with (first | ((with_reducible refine gate_dst (N := 1) rfl ?_); refine box_event ?hg (N := 1) ?hd (cs := #[.string a0_0, .int .i64 a0_1, .slice A0_2 l0_2.length c0_2]) (t := 83) ?hr ?_; (case hd => rfl); (case hg => rfl); (case hr => first | (go_simp; done) | (go_simp; rfl)); intro gb126 hg w41 hbox hb; have n0_ := Aside0.mk (below_step hbk hb); have n1_ := Aside0.mk hbox; have n2_ := Aside0.mk ((by rw [hg]; exact (below_size hbk) : w.heap.size ≤ gb126)); have n3_ := Aside0.mk ((by rw [hg]; exact (below_size hbk) : w.heap.size ≤ gb126)); clear HB; have HB := n0_; have BK126 := n1_; have GW126 := n2_; have GE126 := n3_; clear n0_ n1_ n2_ n3_; clear hb hbox hg; obtain ⟨hcz42_0, hcz42_1, hcz42_2⟩ := blk_cs3 BK126.out; obtain ⟨hfz42_0, hfz42_1, hfz42_2⟩ := blk_fs3 BK126.out) | (go_at_call 92; (with_reducible refine (text_IsName.calls a0_0 false _ A2.out).mono ?_); rintro e w' ⟨rfl, ⟨nd, rfl⟩⟩; (try first | exact ⟨rfl, _, World.drewN_drewN _ _ _⟩ | exact ⟨rfl, _, Eq.trans (World.drewN_drewN _ _ _) (congrArg (World.drewN _) (Nat.add_assoc _ _ _))⟩))))
  go_ret
  exact ⟨hrf, hbk⟩
end Go.Proofs.YtilnppdognejbaaGreatDoor.P
namespace Go.Proofs.YtilnppdognejbaaGreatDoor.P
open Go.RowKit Go.Proofs.YtilnppdognejbaaGreatDoorW.PrintWords Go.Proofs.YtilnppdognejbaaGreatDoorW.PrintLast Go.Proofs.YtilnppdognejbaaGreatDoorW.PrintMore
attribute [local go_sem] max2_int min2_int max_two min_two max_three min_three max_four min_four   -- for this text's walks alone
set_option linter.unusedVariables false
set_option linter.unusedSimpArgs false
def timetable_zoneIndex.l0 : Nat → ByteArray → List (S83) → Int → Int → Option (Int)
 | 0, _, _, _, _ => none
 | k + 1, x1, x7, x8, x9 => if x9 < x8 then (if 0 ≤ x9 then (if x9 < (x7.length : Int) then (if ((rd_T83 x7 x9).f0).toList = x1.toList then (some x9) else (timetable_zoneIndex.l0 k x1 x7 x8 (wrap64 (x9 + 1)))) else (none)) else (none)) else (some (-1))
def timetable_zoneIndex.f (k : Nat) (l0 : List (S83)) (a1 : ByteArray) : Option (Int) := timetable_zoneIndex.l0 k a1 l0 (l0.length : Int) 0
set_option maxHeartbeats 8000000 in
set_option maxRecDepth 100000 in
theorem timetable_zoneIndex.calls (k : Nat) (A0 : Option Addr) (c0 : Nat) (l0 : List (S83)) (a1 : ByteArray) (r : Int) (w : World) (hr0 : Kd.C k83 w A0 l0.length l0) (hc0 : l0.length ≤ c0) (h : timetable_zoneIndex.f k l0 a1 = some r) :
  Calls Tryz.prog 73 #[.slice A0 l0.length c0, .string a1] w fun e w' => e = .returned (.int .i64 r) ∧ Below w.heap.size w w' := by
 have hu83 := Tryz.underlying83
 have HR0 := Aside0.mk hr0
 have HC0 := Aside0.mk hc0
 clear hr0 hc0
 have HB := Aside0.mk (Below.refl w.heap.size w)
 have H : (timetable_zoneIndex.l0 k a1 l0 (l0.length : Int) 0) = some r := h
 clear h
 have H' := Aside0.mk H
 clear H
 go_enter Tryz.func73, Tryz.ntmps73
 go_wp2
 go_loopg [9] k (fun kq v9 w' => ∃ (x9_1 : Int), v9 = .int .i64 x9_1 ∧ Aside0 (timetable_zoneIndex.l0 kq a1 l0 (l0.length : Int) x9_1 = some r) ∧ Aside0 (kq ≤ k) ∧ Aside0 (Below w.heap.size w w'))
 case atStart => exact ⟨(0), (by first | rfl | (simp; done) | (simp [*]; done)), H', ⟨Nat.le_refl _⟩, ⟨hbk⟩⟩
 case round =>
  clear H'
  try clear p2
  obtain ⟨x9_1, rfl, HA, HK1, HB⟩ := hrel
  cases gk with
  | zero => exact absurd HA.out (by simp [timetable_zoneIndex.l0])
  | succ k1 =>
   have H := HA.out
   clear HA
   simp only [timetable_zoneIndex.l0] at H
   by_cases c3 : x9_1 < (l0.length : Int)
   ·rw [if_pos c3] at H
    have c3b0 : decide (x9_1 < (l0.length : Int)) = true := decide_eq_true c3
    clear c3
    by_cases c4 : 0 ≤ x9_1
    ·rw [if_pos c4] at H
     have c4b0 : decide (0 ≤ x9_1) = true := decide_eq_true c4
     clear c4
     by_cases c5 : x9_1 < (l0.length : Int)
     ·rw [if_pos c5] at H
      have c5b0 : decide (x9_1 < (l0.length : Int)) = true := decide_eq_true c5
      clear c5
      by_cases c6 : ((rd_T83 l0 x9_1).f0).toList = a1.toList
      ·rw [if_pos c6] at H
       have c6b0 : (((rd_T83 l0 x9_1).f0).toList == a1.toList) = true := beq_iff_eq.mpr c6
       have c6b1 : (((rd_T83 l0 x9_1).f0).toList != a1.toList) = false := bne_eq_false_iff_eq.mpr c6
       clear c6
       obtain rfl := Option.some.inj H
       have p133 : 0 ≤ (x9_1 : Int) := of_decide_eq_true (by first | (with_reducible assumption) | assumption)
       have q133 : x9_1 < (l0.length : Int) := of_decide_eq_true (by first | (with_reducible assumption) | assumption)
       obtain ⟨ad133, A133_2, c133_2, e133, hx133_0, hx133_1, hx133_2, hl133_2, hi133_2⟩ := at_T83 HR0.out x9_1 p133 q133
       cases e133
       replace hx133_0 := (HB.out.cell (World.block_lt_of_cell? w _ hx133_0)).trans hx133_0
       replace hx133_1 := (HB.out.cell (World.block_lt_of_cell? w _ hx133_1)).trans hx133_1
       replace hx133_2 := (HB.out.cell (World.block_lt_of_cell? w _ hx133_2)).trans hx133_2
       have HR133_2 := Aside0.mk hi133_2
       have HC133_2 := Aside0.mk hl133_2
       clear hi133_2 hl133_2
       replace p133 := eq_true p133
       replace q133 := eq_true q133
       go_wp2_with (first | ((with_reducible refine gate_dst (N := 6) rfl ?_); refine box_event ?hg (N := 6) ?hd (cs := #[.string (⟨#[]⟩ : ByteArray), .int .i64 0, .slice none 0 0]) (t := 83) ?hr ?_; (case hd => rfl); (case hg => rfl); (case hr => first | (go_simp; done) | (go_simp; rfl)); intro gb134 hg w7 hbox hb; have BK134 := Aside0.mk hbox; have GE134 := Aside0.mk ((by rw [hg]; exact (below_size hbk) : w.heap.size ≤ gb134)); replace HB := Aside0.mk (below_step hbk hb); clear hb hbox hg; obtain ⟨hcz8_0, hcz8_1, hcz8_2⟩ := blk_cs3 BK134.out; obtain ⟨hfz8_0, hfz8_1, hfz8_2⟩ := blk_fs3 BK134.out))
       go_ret
       exact ⟨hrf, hbk⟩
      ·rw [if_neg c6] at H
       have c6b0 : (((rd_T83 l0 x9_1).f0).toList == a1.toList) = false := beq_eq_false_iff_ne.mpr c6
       have c6b1 : (((rd_T83 l0 x9_1).f0).toList != a1.toList) = true := bne_iff_ne.mpr c6
       have H' := Aside0.mk H
       clear H
       have p133 : 0 ≤ (x9_1 : Int) := of_decide_eq_true (by first | (with_reducible assumption) | assumption)
       have q133 : x9_1 < (l0.length : Int) := of_decide_eq_true (by first | (with_reducible assumption) | assumption)
       obtain ⟨ad133, A133_2, c133_2, e133, hx133_0, hx133_1, hx133_2, hl133_2, hi133_2⟩ := at_T83 HR0.out x9_1 p133 q133
       cases e133
       replace hx133_0 := (HB.out.cell (World.block_lt_of_cell? w _ hx133_0)).trans hx133_0
       replace hx133_1 := (HB.out.cell (World.block_lt_of_cell? w _ hx133_1)).trans hx133_1
       replace hx133_2 := (HB.out.cell (World.block_lt_of_cell? w _ hx133_2)).trans hx133_2
       have HR133_2 := Aside0.mk hi133_2
       have HC133_2 := Aside0.mk hl133_2
       clear hi133_2 hl133_2
       replace p133 := eq_true p133
       replace q133 := eq_true q133
       go_wp2_with (first | ((with_reducible refine gate_dst (N := 6) rfl ?_); refine box_event ?hg (N := 6) ?hd (cs := #[.string (⟨#[]⟩ : ByteArray), .int .i64 0, .slice none 0 0]) (t := 83) ?hr ?_; (case hd => rfl); (case hg => rfl); (case hr => first | (go_simp; done) | (go_simp; rfl)); intro gb134 hg w9 hbox hb; have BK134 := Aside0.mk hbox; have GE134 := Aside0.mk ((by rw [hg]; exact (below_size hbk) : w.heap.size ≤ gb134)); replace HB := Aside0.mk (below_step hbk hb); clear hb hbox hg; obtain ⟨hcz10_0, hcz10_1, hcz10_2⟩ := blk_cs3 BK134.out; obtain ⟨hfz10_0, hfz10_1, hfz10_2⟩ := blk_fs3 BK134.out))
       go_roundg k1
       case measure => have := HK1.out; omega
       case rel => exact ⟨(wrap64 (x9_1 + 1)), (by first | rfl | (simp; done) | (simp [*]; done)), H', ⟨by have := HK1.out; omega⟩, ⟨hbk⟩⟩
     ·rw [if_neg c5] at H
      exact absurd H (by simp)
    ·rw [if_neg c4] at H
     exact absurd H (by simp)
   ·rw [if_neg c3] at H
    have c3b0 : decide (x9_1 < (l0.length : Int)) = false := decide_eq_false c3
    clear c3
    obtain rfl := Option.some.inj H
    go_wp2
    go_ret
    exact ⟨hrf, hbk⟩
end Go.Proofs.YtilnppdognejbaaGreatDoor.P
namespace Go.Proofs.YtilnppdognejbaaGreatDoor.P
open Go.RowKit Go.Proofs.YtilnppdognejbaaGreatDoorW.PrintWords Go.Proofs.YtilnppdognejbaaGreatDoorW.PrintLast Go.Proofs.YtilnppdognejbaaGreatDoorW.PrintMore
attribute [local go_sem] max2_int min2_int max_two min_two max_three min_three max_four min_four   -- for this text's walks alone
set_option linter.unusedVariables false
set_option linter.unusedSimpArgs false
def timetable_airportIndex.l0 : Nat → ByteArray → List (S86) → Int → Int → Option (Int)
 | 0, _, _, _, _ => none
 | k + 1, x1, x7, x8, x9 => if x9 < x8 then (if 0 ≤ x9 then (if x9 < (x7.length : Int) then (if ((rd_T86 x7 x9).f0).toList = x1.toList then (some x9) else (timetable_airportIndex.l0 k x1 x7 x8 (wrap64 (x9 + 1)))) else (none)) else (none)) else (some (-1))
def timetable_airportIndex.f (k : Nat) (l0 : List (S86)) (a1 : ByteArray) : Option (Int) := timetable_airportIndex.l0 k a1 l0 (l0.length : Int) 0
set_option maxHeartbeats 8000000 in
set_option maxRecDepth 100000 in
theorem timetable_airportIndex.calls (k : Nat) (A0 : Option Addr) (c0 : Nat) (l0 : List (S86)) (a1 : ByteArray) (r : Int) (w : World) (hr0 : Kd.C k86 w A0 l0.length l0) (hc0 : l0.length ≤ c0) (h : timetable_airportIndex.f k l0 a1 = some r) :
  Calls Tryz.prog 88 #[.slice A0 l0.length c0, .string a1] w fun e w' => e = .returned (.int .i64 r) ∧ Below w.heap.size w w' := by
 have hu86 := Tryz.underlying86
 have HR0 := Aside0.mk hr0
 have HC0 := Aside0.mk hc0
 clear hr0 hc0
 have HB := Aside0.mk (Below.refl w.heap.size w)
 have H : (timetable_airportIndex.l0 k a1 l0 (l0.length : Int) 0) = some r := h
 clear h
 have H' := Aside0.mk H
 clear H
 go_enter Tryz.func88, Tryz.ntmps88
 go_wp2
 go_loopg [9] k (fun kq v9 w' => ∃ (x9_1 : Int), v9 = .int .i64 x9_1 ∧ Aside0 (timetable_airportIndex.l0 kq a1 l0 (l0.length : Int) x9_1 = some r) ∧ Aside0 (kq ≤ k) ∧ Aside0 (Below w.heap.size w w'))
 case atStart => exact ⟨(0), (by first | rfl | (simp; done) | (simp [*]; done)), H', ⟨Nat.le_refl _⟩, ⟨hbk⟩⟩
 case round =>
  clear H'
  try clear p2
  obtain ⟨x9_1, rfl, HA, HK1, HB⟩ := hrel
  cases gk with
  | zero => exact absurd HA.out (by simp [timetable_airportIndex.l0])
  | succ k1 =>
   have H := HA.out
   clear HA
   simp only [timetable_airportIndex.l0] at H
   by_cases c3 : x9_1 < (l0.length : Int)
   ·rw [if_pos c3] at H
    have c3b0 : decide (x9_1 < (l0.length : Int)) = true := decide_eq_true c3
    clear c3
    by_cases c4 : 0 ≤ x9_1
    ·rw [if_pos c4] at H
     have c4b0 : decide (0 ≤ x9_1) = true := decide_eq_true c4
     clear c4
     by_cases c5 : x9_1 < (l0.length : Int)
     ·rw [if_pos c5] at H
      have c5b0 : decide (x9_1 < (l0.length : Int)) = true := decide_eq_true c5
      clear c5
      by_cases c6 : ((rd_T86 l0 x9_1).f0).toList = a1.toList
      ·rw [if_pos c6] at H
       have c6b0 : (((rd_T86 l0 x9_1).f0).toList == a1.toList) = true := beq_iff_eq.mpr c6
       have c6b1 : (((rd_T86 l0 x9_1).f0).toList != a1.toList) = false := bne_eq_false_iff_eq.mpr c6
       clear c6
       obtain rfl := Option.some.inj H
       have p135 : 0 ≤ (x9_1 : Int) := of_decide_eq_true (by first | (with_reducible assumption) | assumption)
       have q135 : x9_1 < (l0.length : Int) := of_decide_eq_true (by first | (with_reducible assumption) | assumption)
       obtain ⟨ad135, e135, hx135_0, hx135_1⟩ := at_T86 HR0.out x9_1 p135 q135
       cases e135
       replace hx135_0 := (HB.out.cell (World.block_lt_of_cell? w _ hx135_0)).trans hx135_0
       replace hx135_1 := (HB.out.cell (World.block_lt_of_cell? w _ hx135_1)).trans hx135_1
       replace p135 := eq_true p135
       replace q135 := eq_true q135
       go_wp2_with (first | ((with_reducible refine gate_dst (N := 6) rfl ?_); refine box_event ?hg (N := 6) ?hd (cs := #[.string (⟨#[]⟩ : ByteArray), .string (⟨#[]⟩ : ByteArray)]) (t := 86) ?hr ?_; (case hd => rfl); (case hg => rfl); (case hr => first | (go_simp; done) | (go_simp; rfl)); intro gb136 hg w7 hbox hb; have BK136 := Aside0.mk hbox; have GE136 := Aside0.mk ((by rw [hg]; exact (below_size hbk) : w.heap.size ≤ gb136)); replace HB := Aside0.mk (below_step hbk hb); clear hb hbox hg; obtain ⟨hcz8_0, hcz8_1⟩ := blk_cs2 BK136.out; obtain ⟨hfz8_0, hfz8_1⟩ := blk_fs2 BK136.out))
       go_ret
       exact ⟨hrf, hbk⟩
      ·rw [if_neg c6] at H
       have c6b0 : (((rd_T86 l0 x9_1).f0).toList == a1.toList) = false := beq_eq_false_iff_ne.mpr c6
       have c6b1 : (((rd_T86 l0 x9_1).f0).toList != a1.toList) = true := bne_iff_ne.mpr c6
       have H' := Aside0.mk H
       clear H
       have p135 : 0 ≤ (x9_1 : Int) := of_decide_eq_true (by first | (with_reducible assumption) | assumption)
       have q135 : x9_1 < (l0.length : Int) := of_decide_eq_true (by first | (with_reducible assumption) | assumption)
       obtain ⟨ad135, e135, hx135_0, hx135_1⟩ := at_T86 HR0.out x9_1 p135 q135
       cases e135
       replace hx135_0 := (HB.out.cell (World.block_lt_of_cell? w _ hx135_0)).trans hx135_0
       replace hx135_1 := (HB.out.cell (World.block_lt_of_cell? w _ hx135_1)).trans hx135_1
       replace p135 := eq_true p135
       replace q135 := eq_true q135
       go_wp2_with (first | ((with_reducible refine gate_dst (N := 6) rfl ?_); refine box_event ?hg (N := 6) ?hd (cs := #[.string (⟨#[]⟩ : ByteArray), .string (⟨#[]⟩ : ByteArray)]) (t := 86) ?hr ?_; (case hd => rfl); (case hg => rfl); (case hr => first | (go_simp; done) | (go_simp; rfl)); intro gb136 hg w9 hbox hb; have BK136 := Aside0.mk hbox; have GE136 := Aside0.mk ((by rw [hg]; exact (below_size hbk) : w.heap.size ≤ gb136)); replace HB := Aside0.mk (below_step hbk hb); clear hb hbox hg; obtain ⟨hcz10_0, hcz10_1⟩ := blk_cs2 BK136.out; obtain ⟨hfz10_0, hfz10_1⟩ := blk_fs2 BK136.out))
       go_roundg k1
       case measure => have := HK1.out; omega
       case rel => exact ⟨(wrap64 (x9_1 + 1)), (by first | rfl | (simp; done) | (simp [*]; done)), H', ⟨by have := HK1.out; omega⟩, ⟨hbk⟩⟩
     ·rw [if_neg c5] at H
      exact absurd H (by simp)
    ·rw [if_neg c4] at H
     exact absurd H (by simp)
   ·rw [if_neg c3] at H
    have c3b0 : decide (x9_1 < (l0.length : Int)) = false := decide_eq_false c3
    clear c3
    obtain rfl := Option.some.inj H
    go_wp2
    go_ret
    exact ⟨hrf, hbk⟩
end Go.Proofs.YtilnppdognejbaaGreatDoor.P
namespace Go.Proofs.YtilnppdognejbaaGreatDoor.P
open Go.RowKit Go.Proofs.YtilnppdognejbaaGreatDoorW.PrintWords Go.Proofs.YtilnppdognejbaaGreatDoorW.PrintLast Go.Proofs.YtilnppdognejbaaGreatDoorW.PrintMore
attribute [local go_sem] max2_int min2_int max_two min_two max_three min_three max_four min_four   -- for this text's walks alone
set_option linter.unusedVariables false
set_option linter.unusedSimpArgs false
def text_upper.f (a0 : Int) : Option (Bool) := if a0 ≥ 65 then (some (decide (a0 ≤ 90))) else (some false)
set_option maxHeartbeats 8000000 in
set_option maxRecDepth 100000 in
theorem text_upper.calls (a0 : Int) (r : Bool) (w : World) (h : text_upper.f a0 = some r) :
  Calls Tryz.prog 118 #[.int .u8 a0] w fun e w' => e = .returned (.bool r) ∧ Drawn0 w w' := by
 have H : (if a0 ≥ 65 then (some (decide (a0 ≤ 90))) else (some false)) = some r := h
 clear h
 by_cases c2 : a0 ≥ 65
 ·rw [if_pos c2] at H
  have c2b0 : decide (65 ≤ a0) = true := decide_eq_true c2
  clear c2
  obtain rfl := Option.some.inj H
  go_enter Tryz.func118, Tryz.ntmps118
  go_wp2
  go_ret
  exact ⟨by first | rfl | (simp; done) | (simp [*]; done), by repeat (first | exact Drawn0.refl _ | apply Drawn0.step)⟩
 ·rw [if_neg c2] at H
  have c2b0 : decide (65 ≤ a0) = false := decide_eq_false c2
  clear c2
  obtain rfl := Option.some.inj H
  go_enter Tryz.func118, Tryz.ntmps118
  go_wp2
  go_ret
  exact ⟨by first | rfl | (simp; done) | (simp [*]; done), by repeat (first | exact Drawn0.refl _ | apply Drawn0.step)⟩
end Go.Proofs.YtilnppdognejbaaGreatDoor.P
namespace Go.Proofs.YtilnppdognejbaaGreatDoor.P
open Go.RowKit Go.Proofs.YtilnppdognejbaaGreatDoorW.PrintWords Go.Proofs.YtilnppdognejbaaGreatDoorW.PrintLast Go.Proofs.YtilnppdognejbaaGreatDoorW.PrintMore
attribute [local go_sem] max2_int min2_int max_two min_two max_three min_three max_four min_four   -- for this text's walks alone
set_option linter.unusedVariables false
set_option linter.unusedSimpArgs false
def isUpA (c : Int) : Bool := decide (65 ≤ c) && decide (c ≤ 90)
theorem upA_f (c : Int) : text_upper.f c = some (isUpA c) := by
 unfold text_upper.f isUpA
 by_cases h : c ≥ 65
 ·rw [if_pos h]; simp [h]
 ·rw [if_neg h]; simp only [ge_iff_le] at h; simp [h]
def upAll (s : ByteArray) : Bool := (List.range s.size).all fun j => isUpA (bt s (j : Nat))
theorem upAll_true {s : ByteArray} (h : ∀ j : Nat, j < s.size → isUpA (bt s (j : Int)) = true) : upAll s = true := by
 unfold upAll
 rw [List.all_eq_true]
 intro x hx
 exact h x (by simpa using hx)
theorem upAll_false {s : ByteArray} (k : Nat) (hk : k < s.size) (h : isUpA (bt s (k : Int)) = false) : upAll s = false := by
 unfold upAll
 rw [List.all_eq_false]
 exact ⟨k, by simpa using hk, by simp [h]⟩
theorem allUp (s : ByteArray) (hs : s.size ≤ 16) (w : World) :
  Calls Tryz.prog 115 #[.string s, .func (.func 118) #[] #[]] w fun e w' => e = .returned (.bool (upAll s)) ∧ Drawn0 w w' := by
  go_enter Tryz.func115, Tryz.ntmps115
  go_wp2_with fail
  go_loopw [8] (fun v8 w' => ∃ k : Nat, k ≤ s.size ∧ v8 = .int .i64 (k : Int) ∧ Aside0 (∀ j : Nat, j < k → isUpA (bt s (j : Int)) = true) ∧ Drawn0 w w') (fun v8 _ => s.size - (intOf v8).toNat)
  case atStart => exact ⟨0, Nat.zero_le _, rfl, ⟨fun j h => by omega⟩, Drawn0.refl _⟩
  case round =>
   obtain ⟨k, hk, rfl, HA, ⟨n0, rfl⟩⟩ := hrel
   by_cases hlt : k < s.size
   ·have hx : ∀ h : k < s.size, ((s[k]'h).toNat : Int) = bt s (k : Int) := fun h => by have := bt_at s (k : Int) (by omega); simpa using this
    by_cases hn : isUpA (bt s (k : Int)) = true
    ·have HN := Aside0.mk hn
     go_wp2_with (first | (go_at_call 118; (with_reducible refine (text_upper.calls (bt s (k : Int)) _ _ (upA_f _)).mono ?_); rintro e w' ⟨rfl, ⟨nd, rfl⟩⟩))
     go_roundw
     case rel => exact ⟨k + 1, by omega, by go_num, ⟨fun j hj => by
      by_cases e : j = k
      ·subst e; exact HN.out
      ·exact HA.out j (by omega)⟩, by repeat (first | exact Drawn0.refl _ | apply Drawn0.step)⟩
     case measure => simp [intOf]; omega
    ·replace hn : isUpA (bt s (k : Int)) = false := by simpa using hn
     have HN := Aside0.mk hn
     go_wp2_with (first | (go_at_call 118; (with_reducible refine (text_upper.calls (bt s (k : Int)) _ _ (upA_f _)).mono ?_); rintro e w' ⟨rfl, ⟨nd, rfl⟩⟩))
     go_ret
     exact ⟨by rw [upAll_false k hlt HN.out]; rfl, by repeat (first | exact Drawn0.refl _ | apply Drawn0.step)⟩
   ·have hf : upAll s = true := upAll_true (fun j hj => HA.out j (by omega))
    have HF := Aside0.mk hf
    clear hf
    go_wp2
    go_ret
    exact ⟨by rw [HF.out]; rfl, by repeat (first | exact Drawn0.refl _ | apply Drawn0.step)⟩
def airB (s : ByteArray) : Bool := decide (s.size = 3) && upAll s
theorem text_IsAirport.calls1 (a0 : ByteArray) (w : World) :
  Calls Tryz.prog 94 #[.string a0] w fun e w' => e = .returned (.bool (airB a0)) ∧ Drawn0 w w' := by
 by_cases h1 : a0.size = 3
 ·have b1 : (((a0.size : Nat) : Int) == 3) = true := by simp [h1]
  have HN : Aside0 (airB a0 = upAll a0) := ⟨by simp [airB, h1]⟩
  have H2 := Aside0.mk h1
  clear h1
  go_enter Tryz.func94, Tryz.ntmps94
  go_wp2_with (first | (go_at_call 115; (with_reducible refine (allUp a0 (by have := H2.out; omega) _).mono ?_); rintro e w' ⟨rfl, ⟨nd2, rfl⟩⟩))
  go_ret
  exact ⟨by rw [HN.out]; rfl, by repeat (first | exact Drawn0.refl _ | apply Drawn0.step)⟩
 ·have b1 : (((a0.size : Nat) : Int) == 3) = false := by simp; omega
  have HN : Aside0 (airB a0 = false) := ⟨by simp [airB, h1]⟩
  clear h1
  go_enter Tryz.func94, Tryz.ntmps94
  go_wp2_with fail
  go_ret
  exact ⟨by rw [HN.out]; rfl, by repeat (first | exact Drawn0.refl _ | apply Drawn0.step)⟩
def text_IsAirport.f (a0 : ByteArray) : Option Bool := some (airB a0)
theorem text_IsAirport.calls (a0 : ByteArray) (r : Bool) (w : World) (h : text_IsAirport.f a0 = some r) :
  Calls Tryz.prog 94 #[.string a0] w fun e w' => e = .returned (.bool r) ∧ Drawn0 w w' := by
 obtain rfl := Option.some.inj h
 exact text_IsAirport.calls1 a0 w
end Go.Proofs.YtilnppdognejbaaGreatDoor.P
namespace Go.Proofs.YtilnppdognejbaaGreatDoor.P
open Go.RowKit Go.Proofs.YtilnppdognejbaaGreatDoorW.PrintWords Go.Proofs.YtilnppdognejbaaGreatDoorW.PrintLast Go.Proofs.YtilnppdognejbaaGreatDoorW.PrintMore
attribute [local go_sem] max2_int min2_int max_two min_two max_three min_three max_four min_four   -- for this text's walks alone
set_option linter.unusedVariables false
set_option linter.unusedSimpArgs false
def timetable_checkAirport.f (k : Nat) (l0_0 : List (S83)) (l0_1 : List (S86)) (l0_2 : List (S73)) (a1 : Int) : Option (Int) := if 0 ≤ a1 then (if a1 < (l0_1.length : Int) then ((text_IsAirport.f ((rd_T86 l0_1 a1).f0)).bind fun t140 => (if t140 = true then ((timetable_airportIndex.f k l0_1 ((rd_T86 l0_1 a1).f0)).bind fun t141 => (if t141 < a1 then (some 7) else ((timetable_zoneIndex.f k l0_0 ((rd_T86 l0_1 a1).f1)).bind fun t142 => (if t142 < 0 then (some 6) else (some 0))))) else (some 1))) else (none)) else (none)
set_option maxHeartbeats 8000000 in
set_option maxRecDepth 100000 in
theorem timetable_checkAirport.calls (k : Nat) (A0_0 : Option Addr) (c0_0 : Nat) (l0_0 : List (S83)) (A0_1 : Option Addr) (c0_1 : Nat) (l0_1 : List (S86)) (A0_2 : Option Addr) (c0_2 : Nat) (l0_2 : List (S73)) (a1 : Int) (r : Int) (w : World) (hr0_0 : Kd.C k83 w A0_0 l0_0.length l0_0) (hc0_0 : l0_0.length ≤ c0_0) (hr0_1 : Kd.C k86 w A0_1 l0_1.length l0_1) (hc0_1 : l0_1.length ≤ c0_1) (hr0_2 : Kd.C k73 w A0_2 l0_2.length l0_2) (hc0_2 : l0_2.length ≤ c0_2) (h : timetable_checkAirport.f k l0_0 l0_1 l0_2 a1 = some r) :
  Calls Tryz.prog 74 #[.agg #[.slice A0_0 l0_0.length c0_0, .slice A0_1 l0_1.length c0_1, .slice A0_2 l0_2.length c0_2], .int .i64 a1] w fun e w' => e = .returned (.int .i64 r) ∧ Below w.heap.size w w' := by
 have hu32 := Tryz.underlying32
 have hu86 := Tryz.underlying86
 have HR0_0 := Aside0.mk hr0_0
 have HC0_0 := Aside0.mk hc0_0
 clear hr0_0 hc0_0
 have HR0_1 := Aside0.mk hr0_1
 have HC0_1 := Aside0.mk hc0_1
 clear hr0_1 hc0_1
 have HR0_2 := Aside0.mk hr0_2
 have HC0_2 := Aside0.mk hc0_2
 clear hr0_2 hc0_2
 have HB := Aside0.mk (Below.refl w.heap.size w)
 have H : (if 0 ≤ a1 then (if a1 < (l0_1.length : Int) then ((text_IsAirport.f ((rd_T86 l0_1 a1).f0)).bind fun t140 => (if t140 = true then ((timetable_airportIndex.f k l0_1 ((rd_T86 l0_1 a1).f0)).bind fun t141 => (if t141 < a1 then (some 7) else ((timetable_zoneIndex.f k l0_0 ((rd_T86 l0_1 a1).f1)).bind fun t142 => (if t142 < 0 then (some 6) else (some 0))))) else (some 1))) else (none)) else (none)) = some r := h
 clear h
 by_cases c3 : 0 ≤ a1
 ·rw [if_pos c3] at H
  have c3b0 : decide (0 ≤ a1) = true := decide_eq_true c3
  clear c3
  by_cases c4 : a1 < (l0_1.length : Int)
  ·rw [if_pos c4] at H
   have c4b0 : decide (a1 < (l0_1.length : Int)) = true := decide_eq_true c4
   clear c4
   replace H := Option.bind_eq_some_iff.mp H
   obtain ⟨t140, A50, H⟩ := H
   replace H : (if t140 = true then ((timetable_airportIndex.f k l0_1 ((rd_T86 l0_1 a1).f0)).bind fun t141 => (if t141 < a1 then (some 7) else ((timetable_zoneIndex.f k l0_0 ((rd_T86 l0_1 a1).f1)).bind fun t142 => (if t142 < 0 then (some 6) else (some 0))))) else (some 1)) = some r := H
   have A5 := Aside0.mk A50
   clear A50
   by_cases c6 : t140 = true
   ·subst c6
    have H1 : ((timetable_airportIndex.f k l0_1 ((rd_T86 l0_1 a1).f0)).bind fun t141 => (if t141 < a1 then (some 7) else ((timetable_zoneIndex.f k l0_0 ((rd_T86 l0_1 a1).f1)).bind fun t142 => (if t142 < 0 then (some 6) else (some 0))))) = some r := by rw [if_pos rfl] at H; exact H
    clear H
    have H := H1
    clear H1
    replace H := Option.bind_eq_some_iff.mp H
    obtain ⟨t141, A70, H⟩ := H
    replace H : (if t141 < a1 then (some 7) else ((timetable_zoneIndex.f k l0_0 ((rd_T86 l0_1 a1).f1)).bind fun t142 => (if t142 < 0 then (some 6) else (some 0)))) = some r := H
    have A7 := Aside0.mk A70
    clear A70
    by_cases c8 : t141 < a1
    ·rw [if_pos c8] at H
     have c8b0 : decide (t141 < a1) = true := decide_eq_true c8
     clear c8
     obtain rfl := Option.some.inj H
     go_enter Tryz.func74, Tryz.ntmps74
     go_wp2_with (first | ((with_reducible refine gate_dst (N := 2) rfl ?_); refine box_event ?hg (N := 2) ?hd (cs := #[.slice A0_0 l0_0.length c0_0, .slice A0_1 l0_1.length c0_1, .slice A0_2 l0_2.length c0_2]) (t := 32) ?hr ?_; (case hd => rfl); (case hg => rfl); (case hr => first | (go_simp; done) | (go_simp; rfl)); intro gb137 hg w9 hbox hb; have BK137 := Aside0.mk hbox; have GE137 := Aside0.mk ((by rw [hg]; exact (below_size hbk) : w.heap.size ≤ gb137)); replace HB := Aside0.mk (below_step hbk hb); clear hb hbox hg; obtain ⟨hcz10_0, hcz10_1, hcz10_2⟩ := blk_cs3 BK137.out; obtain ⟨hfz10_0, hfz10_1, hfz10_2⟩ := blk_fs3 BK137.out; have p138 : 0 ≤ (a1 : Int) := of_decide_eq_true (by first | (with_reducible assumption) | assumption); have q138 : a1 < (l0_1.length : Int) := of_decide_eq_true (by first | (with_reducible assumption) | assumption); obtain ⟨ad138, e138, hx138_0, hx138_1⟩ := at_T86 HR0_1.out a1 p138 q138; cases e138; replace hx138_0 := (HB.out.cell (World.block_lt_of_cell? w _ hx138_0)).trans hx138_0; replace hx138_1 := (HB.out.cell (World.block_lt_of_cell? w _ hx138_1)).trans hx138_1; replace p138 := eq_true p138; replace q138 := eq_true q138) | ((with_reducible refine gate_dst (N := 5) rfl ?_); refine box_event ?hg (N := 5) ?hd (cs := #[.string (⟨#[]⟩ : ByteArray), .string (⟨#[]⟩ : ByteArray)]) (t := 86) ?hr ?_; (case hd => rfl); (case hg => rfl); (case hr => first | (go_simp; done) | (go_simp; rfl)); intro gb139 hg w11 hbox hb; have BK139 := Aside0.mk hbox; have GE139 := Aside0.mk ((by rw [hg]; exact (below_size hbk) : w.heap.size ≤ gb139)); have NB137_139 := Aside0.mk ((by rw [hg]; exact Nat.ne_of_lt (blk_ltB BK137.out) : gb137 ≠ gb139)); have NB139_137 := Aside0.mk ((by rw [hg]; exact Nat.ne_of_gt (blk_ltB BK137.out) : gb139 ≠ gb137)); replace BK137 := Aside0.mk (blk_belowB BK137.out hb); replace HB := Aside0.mk (below_step hbk hb); clear hb hbox hg; have hnb12 := NB139_137.out; have hnc12 := NB137_139.out; obtain ⟨hcz13_0, hcz13_1⟩ := blk_cs2 BK139.out; obtain ⟨hfz13_0, hfz13_1⟩ := blk_fs2 BK139.out) | ((with_reducible refine gate_callee (f := 94) rfl ?_); refine goesL_ (some 14) rfl rfl Tryz.func94 (by kernel_rfl) rfl #[.string ((rd_T86 l0_1 a1).f0)] rfl hgl ?_; (with_reducible refine (text_IsAirport.calls ((rd_T86 l0_1 a1).f0) true _ A5.out).mono ?_); rintro e w' ⟨rfl, ⟨nd, rfl⟩⟩; refine ⟨_, rfl, ?_⟩; obtain ⟨hcz14_0, hcz14_1, hcz14_2⟩ := blk_cs3 BK137.out; obtain ⟨hfz14_0, hfz14_1, hfz14_2⟩ := blk_fs3 BK137.out) | ((with_reducible refine gate_callee (f := 88) rfl ?_); refine goesL_ (some 21) rfl rfl Tryz.func88 (by kernel_rfl) rfl #[.slice (some ad138) l0_1.length c0_1, .string ((rd_T86 l0_1 a1).f0)] rfl hgl ?_; (with_reducible refine (timetable_airportIndex.calls k _ _ l0_1 ((rd_T86 l0_1 a1).f0) t141 _ ?side1 ?side2 A7.out).mono ?_); (case side1 => exact Kd.C_below HR0_1.out hbk); (case side2 => exact HC0_1.out); rintro e w15 ⟨rfl, hb⟩; refine ⟨_, rfl, ?_⟩; have n0_ := Aside0.mk (blk_belowB BK137.out hb); have n1_ := Aside0.mk (blk_below (g := gb139) (o := .cells #[.string ((rd_T86 l0_1 a1).f0), .string ((rd_T86 l0_1 a1).f1)] 86 (0, 0)) (by (with_reducible repeat (first | refine blk_drewN ?_ _ | refine blk_drew ?_ | refine blk_alloc ?_ _)); refine blk_put (cs := #[.string ((rd_T86 l0_1 a1).f0), .string (⟨#[]⟩ : ByteArray)]) ?_ 1 _ rfl; refine blk_put (cs := #[.string (⟨#[]⟩ : ByteArray), .string (⟨#[]⟩ : ByteArray)]) ?_ 0 _ rfl; (with_reducible repeat (first | refine blk_drewN ?_ _ | refine blk_drew ?_ | refine blk_alloc ?_ _)); exact BK139.out) hb); have n2_ := Aside0.mk (below_step hbk hb); clear BK137; clear BK139; clear HB; have BK137 := n0_; have BK139 := n1_; have HB := n2_; clear n0_ n1_ n2_; (try clear hb); (try clear hb2); (try clear hk); (try clear hi)))
     go_ret
     exact ⟨hrf, hbk⟩
    ·rw [if_neg c8] at H
     have c8b0 : decide (t141 < a1) = false := decide_eq_false c8
     clear c8
     replace H := Option.bind_eq_some_iff.mp H
     obtain ⟨t142, A160, H⟩ := H
     replace H : (if t142 < 0 then (some 6) else (some 0)) = some r := H
     have A16 := Aside0.mk A160
     clear A160
     by_cases c17 : t142 < 0
     ·rw [if_pos c17] at H
      have c17b0 : decide (t142 < 0) = true := decide_eq_true c17
      clear c17
      obtain rfl := Option.some.inj H
      go_enter Tryz.func74, Tryz.ntmps74
      go_wp2_with (first | ((with_reducible refine gate_dst (N := 2) rfl ?_); refine box_event ?hg (N := 2) ?hd (cs := #[.slice A0_0 l0_0.length c0_0, .slice A0_1 l0_1.length c0_1, .slice A0_2 l0_2.length c0_2]) (t := 32) ?hr ?_; (case hd => rfl); (case hg => rfl); (case hr => first | (go_simp; done) | (go_simp; rfl)); intro gb137 hg w18 hbox hb; have BK137 := Aside0.mk hbox; have GE137 := Aside0.mk ((by rw [hg]; exact (below_size hbk) : w.heap.size ≤ gb137)); replace HB := Aside0.mk (below_step hbk hb); clear hb hbox hg; obtain ⟨hcz19_0, hcz19_1, hcz19_2⟩ := blk_cs3 BK137.out; obtain ⟨hfz19_0, hfz19_1, hfz19_2⟩ := blk_fs3 BK137.out; have p138 : 0 ≤ (a1 : Int) := of_decide_eq_true (by first | (with_reducible assumption) | assumption); have q138 : a1 < (l0_1.length : Int) := of_decide_eq_true (by first | (with_reducible assumption) | assumption); obtain ⟨ad138, e138, hx138_0, hx138_1⟩ := at_T86 HR0_1.out a1 p138 q138; cases e138; replace hx138_0 := (HB.out.cell (World.block_lt_of_cell? w _ hx138_0)).trans hx138_0; replace hx138_1 := (HB.out.cell (World.block_lt_of_cell? w _ hx138_1)).trans hx138_1; replace p138 := eq_true p138; replace q138 := eq_true q138) | ((with_reducible refine gate_dst (N := 5) rfl ?_); refine box_event ?hg (N := 5) ?hd (cs := #[.string (⟨#[]⟩ : ByteArray), .string (⟨#[]⟩ : ByteArray)]) (t := 86) ?hr ?_; (case hd => rfl); (case hg => rfl); (case hr => first | (go_simp; done) | (go_simp; rfl)); intro gb139 hg w20 hbox hb; have BK139 := Aside0.mk hbox; have GE139 := Aside0.mk ((by rw [hg]; exact (below_size hbk) : w.heap.size ≤ gb139)); have NB137_139 := Aside0.mk ((by rw [hg]; exact Nat.ne_of_lt (blk_ltB BK137.out) : gb137 ≠ gb139)); have NB139_137 := Aside0.mk ((by rw [hg]; exact Nat.ne_of_gt (blk_ltB BK137.out) : gb139 ≠ gb137)); replace BK137 := Aside0.mk (blk_belowB BK137.out hb); replace HB := Aside0.mk (below_step hbk hb); clear hb hbox hg; have hnb21 := NB139_137.out; have hnc21 := NB137_139.out; obtain ⟨hcz22_0, hcz22_1⟩ := blk_cs2 BK139.out; obtain ⟨hfz22_0, hfz22_1⟩ := blk_fs2 BK139.out) | ((with_reducible refine gate_callee (f := 94) rfl ?_); refine goesL_ (some 14) rfl rfl Tryz.func94 (by kernel_rfl) rfl #[.string ((rd_T86 l0_1 a1).f0)] rfl hgl ?_; (with_reducible refine (text_IsAirport.calls ((rd_T86 l0_1 a1).f0) true _ A5.out).mono ?_); rintro e w' ⟨rfl, ⟨nd, rfl⟩⟩; refine ⟨_, rfl, ?_⟩; obtain ⟨hcz23_0, hcz23_1, hcz23_2⟩ := blk_cs3 BK137.out; obtain ⟨hfz23_0, hfz23_1, hfz23_2⟩ := blk_fs3 BK137.out) | ((with_reducible refine gate_callee (f := 88) rfl ?_); refine goesL_ (some 21) rfl rfl Tryz.func88 (by kernel_rfl) rfl #[.slice (some ad138) l0_1.length c0_1, .string ((rd_T86 l0_1 a1).f0)] rfl hgl ?_; (with_reducible refine (timetable_airportIndex.calls k _ _ l0_1 ((rd_T86 l0_1 a1).f0) t141 _ ?side1 ?side2 A7.out).mono ?_); (case side1 => exact Kd.C_below HR0_1.out hbk); (case side2 => exact HC0_1.out); rintro e w24 ⟨rfl, hb⟩; refine ⟨_, rfl, ?_⟩; have n0_ := Aside0.mk (blk_belowB BK137.out hb); have n1_ := Aside0.mk (blk_below (g := gb139) (o := .cells #[.string ((rd_T86 l0_1 a1).f0), .string ((rd_T86 l0_1 a1).f1)] 86 (0, 0)) (by (with_reducible repeat (first | refine blk_drewN ?_ _ | refine blk_drew ?_ | refine blk_alloc ?_ _)); refine blk_put (cs := #[.string ((rd_T86 l0_1 a1).f0), .string (⟨#[]⟩ : ByteArray)]) ?_ 1 _ rfl; refine blk_put (cs := #[.string (⟨#[]⟩ : ByteArray), .string (⟨#[]⟩ : ByteArray)]) ?_ 0 _ rfl; (with_reducible repeat (first | refine blk_drewN ?_ _ | refine blk_drew ?_ | refine blk_alloc ?_ _)); exact BK139.out) hb); have n2_ := Aside0.mk (below_step hbk hb); clear BK137; clear BK139; clear HB; have BK137 := n0_; have BK139 := n1_; have HB := n2_; clear n0_ n1_ n2_; (try clear hb); (try clear hb2); (try clear hk); (try clear hi); obtain ⟨hcz25_0, hcz25_1, hcz25_2⟩ := blk_cs3 BK137.out; obtain ⟨hfz25_0, hfz25_1, hfz25_2⟩ := blk_fs3 BK137.out; obtain ⟨hcz26_0, hcz26_1⟩ := blk_cs2 BK139.out; obtain ⟨hfz26_0, hfz26_1⟩ := blk_fs2 BK139.out) | ((with_reducible refine gate_callee (f := 73) rfl ?_); refine goesL_ (some 29) rfl rfl Tryz.func73 (by kernel_rfl) rfl #[.slice A0_0 l0_0.length c0_0, .string ((rd_T86 l0_1 a1).f1)] rfl hgl ?_; (with_reducible refine (timetable_zoneIndex.calls k _ _ l0_0 ((rd_T86 l0_1 a1).f1) t142 _ ?side1 ?side2 A16.out).mono ?_); (case side1 => exact Kd.C_below HR0_0.out hbk); (case side2 => exact HC0_0.out); rintro e w27 ⟨rfl, hb⟩; refine ⟨_, rfl, ?_⟩; have n0_ := Aside0.mk (blk_belowB BK137.out hb); have n1_ := Aside0.mk (blk_belowB BK139.out hb); have n2_ := Aside0.mk (below_step hbk hb); clear BK137; clear BK139; clear HB; have BK137 := n0_; have BK139 := n1_; have HB := n2_; clear n0_ n1_ n2_; (try clear hb); (try clear hb2); (try clear hk); (try clear hi)))
      go_ret
      exact ⟨hrf, hbk⟩
     ·rw [if_neg c17] at H
      have c17b0 : decide (t142 < 0) = false := decide_eq_false c17
      clear c17
      obtain rfl := Option.some.inj H
      go_enter Tryz.func74, Tryz.ntmps74
      go_wp2_with (first | ((with_reducible refine gate_dst (N := 2) rfl ?_); refine box_event ?hg (N := 2) ?hd (cs := #[.slice A0_0 l0_0.length c0_0, .slice A0_1 l0_1.length c0_1, .slice A0_2 l0_2.length c0_2]) (t := 32) ?hr ?_; (case hd => rfl); (case hg => rfl); (case hr => first | (go_simp; done) | (go_simp; rfl)); intro gb137 hg w28 hbox hb; have BK137 := Aside0.mk hbox; have GE137 := Aside0.mk ((by rw [hg]; exact (below_size hbk) : w.heap.size ≤ gb137)); replace HB := Aside0.mk (below_step hbk hb); clear hb hbox hg; obtain ⟨hcz29_0, hcz29_1, hcz29_2⟩ := blk_cs3 BK137.out; obtain ⟨hfz29_0, hfz29_1, hfz29_2⟩ := blk_fs3 BK137.out; have p138 : 0 ≤ (a1 : Int) := of_decide_eq_true (by first | (with_reducible assumption) | assumption); have q138 : a1 < (l0_1.length : Int) := of_decide_eq_true (by first | (with_reducible assumption) | assumption); obtain ⟨ad138, e138, hx138_0, hx138_1⟩ := at_T86 HR0_1.out a1 p138 q138; cases e138; replace hx138_0 := (HB.out.cell (World.block_lt_of_cell? w _ hx138_0)).trans hx138_0; replace hx138_1 := (HB.out.cell (World.block_lt_of_cell? w _ hx138_1)).trans hx138_1; replace p138 := eq_true p138; replace q138 := eq_true q138) | ((with_reducible refine gate_dst (N := 5) rfl ?_); refine box_event ?hg (N := 5) ?hd (cs := #[.string (⟨#[]⟩ : ByteArray), .string (⟨#[]⟩ : ByteArray)]) (t := 86) ?hr ?_; (case hd => rfl); (case hg => rfl); (case hr => first | (go_simp; done) | (go_simp; rfl)); intro gb139 hg w30 hbox hb; have BK139 := Aside0.mk hbox; have GE139 := Aside0.mk ((by rw [hg]; exact (below_size hbk) : w.heap.size ≤ gb139)); have NB137_139 := Aside0.mk ((by rw [hg]; exact Nat.ne_of_lt (blk_ltB BK137.out) : gb137 ≠ gb139)); have NB139_137 := Aside0.mk ((by rw [hg]; exact Nat.ne_of_gt (blk_ltB BK137.out) : gb139 ≠ gb137)); replace BK137 := Aside0.mk (blk_belowB BK137.out hb); replace HB := Aside0.mk (below_step hbk hb); clear hb hbox hg; have hnb31 := NB139_137.out; have hnc31 := NB137_139.out; obtain ⟨hcz32_0, hcz32_1⟩ := blk_cs2 BK139.out; obtain ⟨hfz32_0, hfz32_1⟩ := blk_fs2 BK139.out) | ((with_reducible refine gate_callee (f := 94) rfl ?_); refine goesL_ (some 14) rfl rfl Tryz.func94 (by kernel_rfl) rfl #[.string ((rd_T86 l0_1 a1).f0)] rfl hgl ?_; (with_reducible refine (text_IsAirport.calls ((rd_T86 l0_1 a1).f0) true _ A5.out).mono ?_); rintro e w' ⟨rfl, ⟨nd, rfl⟩⟩; refine ⟨_, rfl, ?_⟩; obtain ⟨hcz33_0, hcz33_1, hcz33_2⟩ := blk_cs3 BK137.out; obtain ⟨hfz33_0, hfz33_1, hfz33_2⟩ := blk_fs3 BK137.out) | ((with_reducible refine gate_callee (f := 88) rfl ?_); refine goesL_ (some 21) rfl rfl Tryz.func88 (by kernel_rfl) rfl #[.slice (some ad138) l0_1.length c0_1, .string ((rd_T86 l0_1 a1).f0)] rfl hgl ?_; (with_reducible refine (timetable_airportIndex.calls k _ _ l0_1 ((rd_T86 l0_1 a1).f0) t141 _ ?side1 ?side2 A7.out).mono ?_); (case side1 => exact Kd.C_below HR0_1.out hbk); (case side2 => exact HC0_1.out); rintro e w34 ⟨rfl, hb⟩; refine ⟨_, rfl, ?_⟩; have n0_ := Aside0.mk (blk_belowB BK137.out hb); have n1_ := Aside0.mk (blk_below (g := gb139) (o := .cells #[.string ((rd_T86 l0_1 a1).f0), .string ((rd_T86 l0_1 a1).f1)] 86 (0, 0)) (by (with_reducible repeat (first | refine blk_drewN ?_ _ | refine blk_drew ?_ | refine blk_alloc ?_ _)); refine blk_put (cs := #[.string ((rd_T86 l0_1 a1).f0), .string (⟨#[]⟩ : ByteArray)]) ?_ 1 _ rfl; refine blk_put (cs := #[.string (⟨#[]⟩ : ByteArray), .string (⟨#[]⟩ : ByteArray)]) ?_ 0 _ rfl; (with_reducible repeat (first | refine blk_drewN ?_ _ | refine blk_drew ?_ | refine blk_alloc ?_ _)); exact BK139.out) hb); have n2_ := Aside0.mk (below_step hbk hb); clear BK137; clear BK139; clear HB; have BK137 := n0_; have BK139 := n1_; have HB := n2_; clear n0_ n1_ n2_; (try clear hb); (try clear hb2); (try clear hk); (try clear hi); obtain ⟨hcz35_0, hcz35_1, hcz35_2⟩ := blk_cs3 BK137.out; obtain ⟨hfz35_0, hfz35_1, hfz35_2⟩ := blk_fs3 BK137.out; obtain ⟨hcz36_0, hcz36_1⟩ := blk_cs2 BK139.out; obtain ⟨hfz36_0, hfz36_1⟩ := blk_fs2 BK139.out) | ((with_reducible refine gate_callee (f := 73) rfl ?_); refine goesL_ (some 29) rfl rfl Tryz.func73 (by kernel_rfl) rfl #[.slice A0_0 l0_0.length c0_0, .string ((rd_T86 l0_1 a1).f1)] rfl hgl ?_; (with_reducible refine (timetable_zoneIndex.calls k _ _ l0_0 ((rd_T86 l0_1 a1).f1) t142 _ ?side1 ?side2 A16.out).mono ?_); (case side1 => exact Kd.C_below HR0_0.out hbk); (case side2 => exact HC0_0.out); rintro e w37 ⟨rfl, hb⟩; refine ⟨_, rfl, ?_⟩; have n0_ := Aside0.mk (blk_belowB BK137.out hb); have n1_ := Aside0.mk (blk_belowB BK139.out hb); have n2_ := Aside0.mk (below_step hbk hb); clear BK137; clear BK139; clear HB; have BK137 := n0_; have BK139 := n1_; have HB := n2_; clear n0_ n1_ n2_; (try clear hb); (try clear hb2); (try clear hk); (try clear hi)))
      go_ret
      exact ⟨hrf, hbk⟩
   ·replace c6 := Bool.eq_false_iff.mpr c6
    subst c6
    have H1 : (some 1) = some r := by rw [if_neg (show ¬ (false = true) by decide)] at H; exact H
    clear H
    have H := H1
    clear H1
    obtain rfl := Option.some.inj H
    go_enter Tryz.func74, Tryz.ntmps74
    go_wp2_with (first | ((with_reducible refine gate_dst (N := 2) rfl ?_); refine box_event ?hg (N := 2) ?hd (cs := #[.slice A0_0 l0_0.length c0_0, .slice A0_1 l0_1.length c0_1, .slice A0_2 l0_2.length c0_2]) (t := 32) ?hr ?_; (case hd => rfl); (case hg => rfl); (case hr => first | (go_simp; done) | (go_simp; rfl)); intro gb137 hg w38 hbox hb; have BK137 := Aside0.mk hbox; have GE137 := Aside0.mk ((by rw [hg]; exact (below_size hbk) : w.heap.size ≤ gb137)); replace HB := Aside0.mk (below_step hbk hb); clear hb hbox hg; obtain ⟨hcz39_0, hcz39_1, hcz39_2⟩ := blk_cs3 BK137.out; obtain ⟨hfz39_0, hfz39_1, hfz39_2⟩ := blk_fs3 BK137.out; have p138 : 0 ≤ (a1 : Int) := of_decide_eq_true (by first | (with_reducible assumption) | assumption); have q138 : a1 < (l0_1.length : Int) := of_decide_eq_true (by first | (with_reducible assumption) | assumption); obtain ⟨ad138, e138, hx138_0, hx138_1⟩ := at_T86 HR0_1.out a1 p138 q138; cases e138; replace hx138_0 := (HB.out.cell (World.block_lt_of_cell? w _ hx138_0)).trans hx138_0; replace hx138_1 := (HB.out.cell (World.block_lt_of_cell? w _ hx138_1)).trans hx138_1; replace p138 := eq_true p138; replace q138 := eq_true q138) | ((with_reducible refine gate_dst (N := 5) rfl ?_); refine box_event ?hg (N := 5) ?hd (cs := #[.string (⟨#[]⟩ : ByteArray), .string (⟨#[]⟩ : ByteArray)]) (t := 86) ?hr ?_; (case hd => rfl); (case hg => rfl); (case hr => first | (go_simp; done) | (go_simp; rfl)); intro gb139 hg w40 hbox hb; have BK139 := Aside0.mk hbox; have GE139 := Aside0.mk ((by rw [hg]; exact (below_size hbk) : w.heap.size ≤ gb139)); have NB137_139 := Aside0.mk ((by rw [hg]; exact Nat.ne_of_lt (blk_ltB BK137.out) : gb137 ≠ gb139)); have NB139_137 := Aside0.mk ((by rw [hg]; exact Nat.ne_of_gt (blk_ltB BK137.out) : gb139 ≠ gb137)); replace BK137 := Aside0.mk (blk_belowB BK137.out hb); replace HB := Aside0.mk (below_step hbk hb); clear hb hbox hg; have hnb41 := NB139_137.out; have hnc41 := NB137_139.out; obtain ⟨hcz42_0, hcz42_1⟩ := blk_cs2 BK139.out; obtain ⟨hfz42_0, hfz42_1⟩ := blk_fs2 BK139.out) | ((with_reducible refine gate_callee (f := 94) rfl ?_); refine goesL_ (some 14) rfl rfl Tryz.func94 (by kernel_rfl) rfl #[.string ((rd_T86 l0_1 a1).f0)] rfl hgl ?_; (with_reducible refine (text_IsAirport.calls ((rd_T86 l0_1 a1).f0) false _ A5.out).mono ?_); rintro e w' ⟨rfl, ⟨nd, rfl⟩⟩; refine ⟨_, rfl, ?_⟩))
    go_ret
    exact ⟨hrf, hbk⟩
  ·rw [if_neg c4] at H
   exact absurd H (by simp)
 ·rw [if_neg c3] at H
  exact absurd H (by simp)
end Go.Proofs.YtilnppdognejbaaGreatDoor.P
namespace Go.Proofs.YtilnppdognejbaaGreatDoor.P
open Go.RowKit Go.Proofs.YtilnppdognejbaaGreatDoorW.PrintWords Go.Proofs.YtilnppdognejbaaGreatDoorW.PrintLast Go.Proofs.YtilnppdognejbaaGreatDoorW.PrintMore
attribute [local go_sem] max2_int min2_int max_two min_two max_three min_three max_four min_four   -- for this text's walks alone
set_option linter.unusedVariables false
set_option linter.unusedSimpArgs false
def isUp (c : Int) : Bool := decide (65 ≤ c) && decide (c ≤ 90)
def isDgC (c : Int) : Bool := decide (48 ≤ c) && decide (c ≤ 57)
def isCd (c : Int) : Bool := isUp c || isDgC c
theorem up_f (c : Int) : text_upper.f c = some (isUp c) := by
 unfold text_upper.f isUp
 by_cases h : c ≥ 65
 ·rw [if_pos h]; simp [h]
 ·rw [if_neg h]; simp only [ge_iff_le] at h; simp [h]
theorem digC (c : Int) (w : World) : Calls Tryz.prog 117 #[.int .u8 c] w fun e w' => e = .returned (.bool (isDgC c)) ∧ Drawn0 w w' := by
 by_cases h1 : 48 ≤ c
 ·have h2 : decide (48 ≤ c) = true := by simpa using h1
  clear h1
  go_enter Tryz.func117, Tryz.ntmps117
  go_wp2
  go_ret
  exact ⟨by simp [isDgC, h2], by repeat (first | exact Drawn0.refl _ | apply Drawn0.step)⟩
 ·have h2 : decide (48 ≤ c) = false := by simpa using h1
  clear h1
  go_enter Tryz.func117, Tryz.ntmps117
  go_wp2
  go_ret
  exact ⟨by simp [isDgC, h2], by repeat (first | exact Drawn0.refl _ | apply Drawn0.step)⟩
theorem cd1 (c : Int) (w : World) :
  Calls Tryz.prog 119 #[.int .u8 c] w fun e w' => e = .returned (.bool (isCd c)) ∧ Drawn0 w w' := by
 have hl := Aside0.mk (up_f c)
 by_cases h1 : isUp c = true
 ·go_enter Tryz.func119, Tryz.ntmps119
  go_wp2_with (first | (go_at_call 118; (with_reducible refine (text_upper.calls c _ _ hl.out).mono ?_); rintro e w' ⟨rfl, ⟨nd, rfl⟩⟩))
  go_ret
  exact ⟨by simp [isCd, h1], by repeat (first | exact Drawn0.refl _ | apply Drawn0.step)⟩
 ·replace h1 : isUp c = false := by simpa using h1
  go_enter Tryz.func119, Tryz.ntmps119
  go_wp2_with (first | (go_at_call 118; (with_reducible refine (text_upper.calls c _ _ hl.out).mono ?_); rintro e w' ⟨rfl, ⟨nd, rfl⟩⟩) | (go_at_call 117; (with_reducible refine (digC c _).mono ?_); rintro e w' ⟨rfl, ⟨nd, rfl⟩⟩))
  go_ret
  exact ⟨by simp [isCd, h1], by repeat (first | exact Drawn0.refl _ | apply Drawn0.step)⟩
def cdAll (s : ByteArray) : Bool := (List.range s.size).all fun j => isCd (bt s (j : Nat))
theorem cdAll_true {s : ByteArray} (h : ∀ j : Nat, j < s.size → isCd (bt s (j : Int)) = true) : cdAll s = true := by
 unfold cdAll
 rw [List.all_eq_true]
 intro x hx
 exact h x (by simpa using hx)
theorem cdAll_false {s : ByteArray} (k : Nat) (hk : k < s.size) (h : isCd (bt s (k : Int)) = false) : cdAll s = false := by
 unfold cdAll
 rw [List.all_eq_false]
 exact ⟨k, by simpa using hk, by simp [h]⟩
theorem allCd (s : ByteArray) (hs : s.size ≤ 16) (w : World) :
  Calls Tryz.prog 115 #[.string s, .func (.func 119) #[] #[]] w fun e w' => e = .returned (.bool (cdAll s)) ∧ Drawn0 w w' := by
  go_enter Tryz.func115, Tryz.ntmps115
  go_wp2_with fail
  go_loopw [8] (fun v8 w' => ∃ k : Nat, k ≤ s.size ∧ v8 = .int .i64 (k : Int) ∧ Aside0 (∀ j : Nat, j < k → isCd (bt s (j : Int)) = true) ∧ Drawn0 w w') (fun v8 _ => s.size - (intOf v8).toNat)
  case atStart => exact ⟨0, Nat.zero_le _, rfl, ⟨fun j h => by omega⟩, Drawn0.refl _⟩
  case round =>
   obtain ⟨k, hk, rfl, HA, ⟨n0, rfl⟩⟩ := hrel
   by_cases hlt : k < s.size
   ·have hx : ∀ h : k < s.size, ((s[k]'h).toNat : Int) = bt s (k : Int) := fun h => by have := bt_at s (k : Int) (by omega); simpa using this
    by_cases hn : isCd (bt s (k : Int)) = true
    ·have HN := Aside0.mk hn
     go_wp2_with (first | (go_at_call 119; (with_reducible refine (cd1 (bt s (k : Int)) _).mono ?_); rintro e w' ⟨rfl, ⟨nd, rfl⟩⟩))
     go_roundw
     case rel => exact ⟨k + 1, by omega, by go_num, ⟨fun j hj => by
      by_cases e : j = k
      ·subst e; exact HN.out
      ·exact HA.out j (by omega)⟩, by repeat (first | exact Drawn0.refl _ | apply Drawn0.step)⟩
     case measure => simp [intOf]; omega
    ·replace hn : isCd (bt s (k : Int)) = false := by simpa using hn
     have HN := Aside0.mk hn
     go_wp2_with (first | (go_at_call 119; (with_reducible refine (cd1 (bt s (k : Int)) _).mono ?_); rintro e w' ⟨rfl, ⟨nd, rfl⟩⟩))
     go_ret
     exact ⟨by rw [cdAll_false k hlt HN.out]; rfl, by repeat (first | exact Drawn0.refl _ | apply Drawn0.step)⟩
   ·have hf : cdAll s = true := cdAll_true (fun j hj => HA.out j (by omega))
    have HF := Aside0.mk hf
    clear hf
    go_wp2
    go_ret
    exact ⟨by rw [HF.out]; rfl, by repeat (first | exact Drawn0.refl _ | apply Drawn0.step)⟩
def codeB (s : ByteArray) : Bool := decide (1 ≤ s.size) && (decide (s.size ≤ 8) && cdAll s)
theorem text_IsCode.calls1 (a0 : ByteArray) (w : World) :
  Calls Tryz.prog 95 #[.string a0] w fun e w' => e = .returned (.bool (codeB a0)) ∧ Drawn0 w w' := by
 by_cases h1 : 1 ≤ a0.size
 ·have b1 : decide ((1 : Int) ≤ (a0.size : Int)) = true := decide_eq_true (by omega)
  have d1 : decide (1 ≤ a0.size) = true := decide_eq_true h1
  by_cases h2 : a0.size ≤ 8
  ·have b2 : decide ((a0.size : Int) ≤ 8) = true := decide_eq_true (by omega)
   have d2 : decide (a0.size ≤ 8) = true := decide_eq_true h2
   have HN : Aside0 (codeB a0 = cdAll a0) := ⟨by simp [codeB, h1, h2]⟩
   have H2 := Aside0.mk h2
   go_enter Tryz.func95, Tryz.ntmps95
   go_wp2_with (first | (go_at_call 115; (with_reducible refine (allCd a0 (Nat.le_trans H2.out (by decide)) _).mono ?_); rintro e w' ⟨rfl, ⟨nd2, rfl⟩⟩))
   go_ret
   exact ⟨by rw [HN.out]; rfl, by repeat (first | exact Drawn0.refl _ | apply Drawn0.step)⟩
  ·have b2 : decide ((a0.size : Int) ≤ 8) = false := decide_eq_false (by omega)
   have d2 : decide (a0.size ≤ 8) = false := decide_eq_false h2
   have HN : Aside0 (codeB a0 = false) := ⟨by simp [codeB, h2]⟩
   go_enter Tryz.func95, Tryz.ntmps95
   go_wp2_with fail
   go_ret
   exact ⟨by rw [HN.out]; rfl, by repeat (first | exact Drawn0.refl _ | apply Drawn0.step)⟩
 ·have b1 : decide ((1 : Int) ≤ (a0.size : Int)) = false := decide_eq_false (by omega)
  have d1 : decide (1 ≤ a0.size) = false := decide_eq_false h1
  have HN : Aside0 (codeB a0 = false) := ⟨by simp [codeB, h1]⟩
  go_enter Tryz.func95, Tryz.ntmps95
  go_wp2_with fail
  go_ret
  exact ⟨by rw [HN.out]; rfl, by repeat (first | exact Drawn0.refl _ | apply Drawn0.step)⟩
def text_IsCode.f (a0 : ByteArray) : Option Bool := some (codeB a0)
theorem text_IsCode.calls (a0 : ByteArray) (r : Bool) (w : World) (h : text_IsCode.f a0 = some r) :
  Calls Tryz.prog 95 #[.string a0] w fun e w' => e = .returned (.bool r) ∧ Drawn0 w w' := by
 obtain rfl := Option.some.inj h
 exact text_IsCode.calls1 a0 w
end Go.Proofs.YtilnppdognejbaaGreatDoor.P
namespace Go.Proofs.YtilnppdognejbaaGreatDoor.P
open Go.RowKit Go.Proofs.YtilnppdognejbaaGreatDoorW.PrintWords Go.Proofs.YtilnppdognejbaaGreatDoorW.PrintLast Go.Proofs.YtilnppdognejbaaGreatDoorW.PrintMore
attribute [local go_sem] max2_int min2_int max_two min_two max_three min_three max_four min_four   -- for this text's walks alone
set_option linter.unusedVariables false
set_option linter.unusedSimpArgs false
theorem ixN0 (x y z : Value) (w : World) : Sem.run Tryz.prog (Instr.index 71 (.agg #[x, y, z]) (.int .i64 0)) w = .ok x w := by
 simp [Instr.index, run_underlying Tryz.underlying71, asIntOf, go_sem]
theorem ixN1 (x y z : Value) (w : World) : Sem.run Tryz.prog (Instr.index 71 (.agg #[x, y, z]) (.int .i64 1)) w = .ok y w := by
 simp [Instr.index, run_underlying Tryz.underlying71, asIntOf, go_sem]
theorem ixN2 (x y z : Value) (w : World) : Sem.run Tryz.prog (Instr.index 71 (.agg #[x, y, z]) (.int .i64 2)) w = .ok z w := by
 simp [Instr.index, run_underlying Tryz.underlying71, asIntOf, go_sem]
attribute [local go_sem] ixN0 ixN1 ixN2
def needIn (x : Int) : Bool := decide (0 ≤ x) && decide (x ≤ 8)
set_option maxRecDepth 100000 in
theorem need1 (a0_0 a0_1 a0_2 : ByteArray) (a0_3 a0_4 : Int) (a0_5 : ByteArray) (a0_6 a0_7 a0_8 : Int) (h6 : needIn a0_6 = true) (h7 : needIn a0_7 = true) (h8 : needIn a0_8 = true) (w : World) :
  Calls Tryz.prog 96 #[.agg #[.string a0_0, .string a0_1, .string a0_2, .int .i64 a0_3, .int .i64 a0_4, .string a0_5, .int .i64 a0_6, .int .i64 a0_7, .int .i64 a0_8]] w fun e w' => e = .returned (.bool true) ∧ Below w.heap.size w w' := by
 have hu := Tryz.underlying73
 have HB := Aside0.mk (Below.refl w.heap.size w)
 have n6 : decide (a0_6 < 0) = false := by simp [needIn] at h6; exact decide_eq_false (by omega)
 have m6 : decide (8 < a0_6) = false := by simp [needIn] at h6; exact decide_eq_false (by omega)
 have n7 : decide (a0_7 < 0) = false := by simp [needIn] at h7; exact decide_eq_false (by omega)
 have m7 : decide (8 < a0_7) = false := by simp [needIn] at h7; exact decide_eq_false (by omega)
 have n8 : decide (a0_8 < 0) = false := by simp [needIn] at h8; exact decide_eq_false (by omega)
 have m8 : decide (8 < a0_8) = false := by simp [needIn] at h8; exact decide_eq_false (by omega)
 clear h6 h7 h8
 go_enter Tryz.func96, Tryz.ntmps96
 go_wp2_with fail
 go_loopw [7] (fun v7 w' => ∃ k : Nat, k ≤ 3 ∧ v7 = .int .i64 (k : Int) ∧ Aside0 (Below w.heap.size w w')) (fun v7 _ => 3 - (intOf v7).toNat)
 case atStart => exact ⟨0, by omega, rfl, ⟨by repeat (first | exact HB.out | apply below_alloc | apply pw_below_drewN | apply below_drew1)⟩⟩
 case round =>
  clear HB
  obtain ⟨k, hk, rfl, HB⟩ := hrel
  obtain rfl | rfl | rfl | rfl := (by omega : k = 0 ∨ k = 1 ∨ k = 2 ∨ k = 3)
  ·go_wp2_with fail
   go_roundw
   case rel => exact ⟨1, by omega, rfl, ⟨by repeat (first | exact HB.out | apply below_alloc | apply pw_below_drewN | apply below_drew1)⟩⟩
   case measure => simp [intOf]
  ·go_wp2_with fail
   go_roundw
   case rel => exact ⟨2, by omega, rfl, ⟨by repeat (first | exact HB.out | apply below_alloc | apply pw_below_drewN | apply below_drew1)⟩⟩
   case measure => simp [intOf]
  ·go_wp2_with fail
   go_roundw
   case rel => exact ⟨3, by omega, rfl, ⟨by repeat (first | exact HB.out | apply below_alloc | apply pw_below_drewN | apply below_drew1)⟩⟩
   case measure => simp [intOf]
  ·go_wp2_with fail
   go_ret
   exact ⟨rfl, by repeat (first | exact HB.out | apply below_alloc | apply pw_below_drewN | apply below_drew1)⟩
def timetable_needOK.f (a0_0 : ByteArray) (a0_1 : ByteArray) (a0_2 : ByteArray) (a0_3 : Int) (a0_4 : Int) (a0_5 : ByteArray) (a0_6 : Int) (a0_7 : Int) (a0_8 : Int) : Option (Bool) := if needIn a0_6 = true then if needIn a0_7 = true then if needIn a0_8 = true then some true else none else none else none
theorem timetable_needOK.calls (a0_0 : ByteArray) (a0_1 : ByteArray) (a0_2 : ByteArray) (a0_3 : Int) (a0_4 : Int) (a0_5 : ByteArray) (a0_6 : Int) (a0_7 : Int) (a0_8 : Int) (r : Bool) (w : World) (h : timetable_needOK.f a0_0 a0_1 a0_2 a0_3 a0_4 a0_5 a0_6 a0_7 a0_8 = some r) :
  Calls Tryz.prog 96 #[.agg #[.string a0_0, .string a0_1, .string a0_2, .int .i64 a0_3, .int .i64 a0_4, .string a0_5, .int .i64 a0_6, .int .i64 a0_7, .int .i64 a0_8]] w fun e w' => e = .returned (.bool r) ∧ Below w.heap.size w w' := by
 unfold timetable_needOK.f at h
 by_cases h6 : needIn a0_6 = true
 ·rw [if_pos h6] at h
  by_cases h7 : needIn a0_7 = true
  ·rw [if_pos h7] at h
   by_cases h8 : needIn a0_8 = true
   ·rw [if_pos h8] at h
    obtain rfl := Option.some.inj h
    exact need1 _ _ _ _ _ _ _ _ _ h6 h7 h8 w
   ·rw [if_neg h8] at h; cases h
  ·rw [if_neg h7] at h; cases h
 ·rw [if_neg h6] at h; cases h
end Go.Proofs.YtilnppdognejbaaGreatDoor.P
