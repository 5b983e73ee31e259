/- The table of names, read off what the row says of it. -/
import Derived.Test.YtgkdmkjfcmilgaaGreatDoorK6
import Derived.Test.YtgkdmkjfcmilgaaGreatDoorCards
import Derived.ProofKit
import Derived.Lib.LaidTab
set_option linter.unusedVariables false
set_option linter.unusedSimpArgs false
namespace Go.X
open Go.Proofs Go.Proofs.YtgkdmkjfcmilgaaGreatDoor
open Go.ChangeShapes Go.WideShapes Go.ChangeAt Go.RowKit
/-- An array of strings that reads as these holds them, cell for cell. -/
theorem cells_of_strs {H : Type} {enc : TypeId × Value → H} {P : Program} {w : World} {base : Nat} {sp : Nat → Bool} {held : Bool} {fuel : Nat} {t e : TypeId} {n : Nat} {cs : List Value} {ss : List ByteArray} {p : List MemPlace}
    (ht : P.underlying t = some (.array n e)) (he : P.underlying e = some .string) (hce : P.cellsOf e = 1) (hct : P.cellsOf t = n)
    (h : DataW.trod enc P w base sp held fuel t cs = some (.agg (ss.map fun s => .lit (.string s.data.toList)), p)) : cs = ss.map fun s => Value.string s := by
  cases fuel with
  | zero => simp [DataW.trod] at h
  | succ fuel =>
    simp only [DataW.trod, ht, hce, hct, Nat.mul_one] at h
    split at h
    · rename_i hl
      obtain ⟨xs, hm, hx⟩ := Option.map_eq_some_iff.1 h
      have hxs : xs.map (·.1) = ss.map fun s => (DataW.lit (.string s.data.toList) : DataW H) := by
        have := congrArg Prod.fst hx
        simpa using this
      have hxl : xs.length = n := by simpa using Lib.mapM_length hm
      have hzl : ss.length = n := by
        have := congrArg List.length hxs
        simp at this
        omega
      apply List.ext_getElem?
      intro i
      by_cases hi : i < n
      · obtain ⟨b, hb, hf⟩ := Lib.mapM_at hm i i (by simp [hi])
        obtain ⟨s, hc, rfl, _⟩ := DataW.trod_string he hf
        have h1 : cs[i]? = some (.string s) := by
          have := congrArg (·[0]?) hc
          simpa [List.getElem?_take, List.getElem?_drop] using this
        have h2 : (xs.map (·.1))[i]? = some (DataW.lit (.string s.data.toList) : DataW H) := by simp [hb]
        rw [hxs] at h2
        simp only [List.getElem?_map, Option.map_eq_some_iff, DataW.lit.injEq, Lit.string.injEq] at h2
        obtain ⟨s', hs', e⟩ := h2
        have e2 : s' = s := by
          cases s'; cases s
          simp only [ByteArray.mk.injEq]
          exact Array.toList_inj.mp e
        subst e2
        simp [h1, hs']
      · rw [List.getElem?_eq_none (by omega), List.getElem?_eq_none (by simp; omega)]
    · cases h

def resL : List (List UInt8) := [[97, 110, 100], [111, 114], [110, 111, 116], [105, 109, 112, 108, 105, 101, 115], [105, 110], [116, 111], [116, 114, 117, 101], [102, 97, 108, 115, 101], [109, 105, 110], [109, 97, 120], [105, 102], [116, 104, 101, 110], [101, 108, 115, 101]]
def resN : List ByteArray := resL.map fun s => ⟨s.toArray⟩
theorem namesR_eq : namesR = resN.map fun b => b.data.toList.map UInt8.toNat := by decide +kernel
theorem gRes : Tryz.prog.globalNamed "pairing/grammar.reserved" = some 0 := by kernel_rfl
theorem gResType : (Tryz.prog.globals[0]?).map (·.type) = some 161 := by kernel_rfl
theorem cells9 : Tryz.prog.cellsOf 9 = 1 := by kernel_rfl
theorem cells161 : Tryz.prog.cellsOf 161 = 13 := by kernel_rfl
theorem names_of_head {W : World} {rest : List (String × DataW Unit)} (h : laidMet Tryz.prog (("pairing/grammar.reserved", Rows.laid_pairing_grammar_reserved) :: rest) W) : Names W := by
  obtain ⟨ps, ⟨g', t', cs, fuel, p, q, hg', ht', hvar, hd, _, hps⟩, _, hcell⟩ := h
  obtain rfl := Option.some.inj (gRes.symm.trans hg')
  obtain rfl := Option.some.inj (gResType.symm.trans ht')
  have hc := cells_of_strs (ss := resN) Tryz.underlying161 Tryz.underlying9 cells9 cells161 hd
  have hsz : cs.size = 13 := by rw [← Array.length_toList, hc]; rfl
  have hmem : MemPlace.cell 0 0 ∈ ps := by
    rw [hps, hsz]
    exact List.mem_append_left _ (List.mem_append_left _ (by simp [MemPlace.row]))
  obtain ⟨⟨c, t, h0⟩, _⟩ := hcell 0 0 hmem
  refine ⟨c, t, h0, fun j s hj => ?_⟩
  rw [namesR_eq, List.getElem?_map] at hj
  obtain ⟨b, h1, h2⟩ := Option.map_eq_some_iff.1 hj
  refine ⟨b, ?_, h2⟩
  have h3 := World.var?_cell gRes hvar j
  have h4 : cs[j]? = some (.string b) := by rw [← Array.getElem?_toList, hc, List.getElem?_map, h1]; rfl
  rw [h4] at h3
  simpa [World.cell?, h0] using h3
theorem names_of_row {W : World} (h : laidMetH Tryz.prog Rows.totalsPaysRow.laid W) : Names W := names_of_head h
end Go.X
