/- A stand-in for totals.sorted. -/
import Derived.Test.YtgkdmkjfcmilgaaGreatDoorYc
import Derived.Test.YtgkdmkjfcmilgaaGreatDoorSo
set_option linter.unusedVariables false
set_option linter.unusedSimpArgs false
namespace Go.X
open Go.Proofs
noncomputable section
/-- A number put into an ascending list that has it not. -/
def insI (n : Int) : List Int → Option (List Int)
  | [] => some [n]
  | m :: l => ib (ile n m) (ib (ile m n) none (some (n :: m :: l))) (ob (insI n l) fun l' => some (m :: l'))
def iwf (n : Int) : Bool := ib (ile (-9223372036854775808) n) (ile n 9223372036854775807) false
/-- The keys of a set of numbers, ascending. -/
def keysM : List (V × V × Nat) → Nat → Nat → Option (List Int)
  | [], lo, ck => ib (Nat.ble lo ck) (some []) none
  | (.int .i64 n, .bool _, b) :: l, lo, ck => ib (Nat.ble lo b) (ib (iwf n) (ob (keysM l (Nat.succ b) ck) fun k => insI n k) none) none
  | _, _, _ => none
def intsV : List Int → List V
  | [] => []
  | n :: l => inum n fun n => .int .i64 n :: intsV l
def sortedK (k : List Int) (h : T Blk) (nx : Nat) : R Ans := match k with
  | [] => .no "sorted" 2
  | k :: ks => match ofL (intsV (k :: ks)) .e (nat_lit 0) with
    | some c => num (Nat.succ nx) fun nx' => num ks.length fun n => ib (Nat.ble n 1000) (h.setK nx (.cells (Nat.succ n) c) fun h' => .ok ⟨.slc nx (nat_lit 0) (Nat.succ n) (nat_lit 1) none, h', nx', []⟩) (.no "sorted" 5)
    | none => .no "sorted" 1
def sortedR (args : List V) (h : T Blk) (nx : Nat) : R Ans := match args with
  | [.mapv b] => match h.get b with
    | some (.mp es ck) => match keysM es 0 ck with
      | some k => sortedK k h nx
      | none => .no "sorted" 0
    | _ => .no "sorted" 3
  | _ => .no "sorted" 4
def overS : CallT → CallT := fun c g args h nx => match Nat.beq g 24 with
  | false => c g args h nx
  | true => sortedR args h nx
end
theorem insI_some {n : Int} : ∀ {l l' : List Int}, insI n l = some l' → l.Pairwise (· ≤ ·) → l'.Perm (n :: l) ∧ l'.Pairwise (· ≤ ·) ∧ (l.Nodup → l'.Nodup)
  | [], l', h, _ => by
    have h' : some [n] = some l' := h
    cases h'; exact ⟨List.Perm.refl _, by simp, by simp⟩
  | m :: l, l', h, hs => by
    unfold insI at h
    rw [ib_eq] at h
    by_cases h1 : n ≤ m
    · rw [if_pos (by rw [ile_eq]; simpa using h1), ib_eq] at h
      by_cases h2 : m ≤ n
      · rw [if_pos (by rw [ile_eq]; simpa using h2)] at h; cases h
      · rw [if_neg (by rw [ile_eq]; simpa using h2)] at h
        cases h
        have hlt : ∀ x ∈ m :: l, n < x := by
          intro x hx
          rcases List.mem_cons.1 hx with rfl | hx
          · omega
          · have := (List.pairwise_cons.1 hs).1 x hx; omega
        refine ⟨List.Perm.refl _, List.pairwise_cons.2 ⟨fun x hx => Int.le_of_lt (hlt x hx), hs⟩, fun hn => List.nodup_cons.2 ⟨fun hx => by have := hlt n hx; omega, hn⟩⟩
    · rw [if_neg (by rw [ile_eq]; simpa using h1)] at h
      obtain ⟨l2, h3, h4⟩ := ob_some.1 h
      cases h4
      obtain ⟨h5, h6, h7⟩ := insI_some h3 (List.pairwise_cons.1 hs).2
      have hp : (m :: l2).Perm (n :: m :: l) := ((List.Perm.cons m h5).trans (List.Perm.swap n m l))
      refine ⟨hp, List.pairwise_cons.2 ⟨fun x hx => ?_, h6⟩, fun hn => List.nodup_cons.2 ⟨fun hx => ?_, h7 (List.nodup_cons.1 hn).2⟩⟩
      · rcases List.mem_cons.1 (h5.mem_iff.1 hx) with rfl | hx
        · omega
        · exact (List.pairwise_cons.1 hs).1 x hx
      · rcases List.mem_cons.1 (h5.mem_iff.1 hx) with rfl | hx
        · omega
        · exact (List.nodup_cons.1 hn).1 hx
theorem iwf_true {n : Int} (h : iwf n = true) : (Lit.int .i64 n).wf = true := by
  unfold iwf at h
  rw [ib_eq, ile_eq, ile_eq] at h
  split at h
  · rename_i h1
    simp only [decide_eq_true_eq] at h h1
    simp [Lit.wf, IntKind.min, IntKind.max, IntKind.bits, IntKind.signed]
    omega
  · cases h
/-- What the entries of such a map are. -/
theorem keysM_some {μ : Nat → Nat × Nat} {A : Nat → Prop} {w : World} {ck : Nat} : ∀ {es : List (V × V × Nat)} {lo : Nat} {ks : List Int} {ms : List MapEntry}, keysM es lo ck = some ks → MR μ A w es ms →
    ks.Pairwise (· ≤ ·) ∧ ks.Nodup ∧ (∀ x ∈ ms, ∃ n b, x.key = .int .i64 n ∧ x.val = .bool b ∧ (Lit.int .i64 n).wf = true ∧ lo ≤ x.born ∧ x.born < ck) ∧ (ms.map (·.born)).Nodup ∧ (ms.map fun x => RowKit.intOf x.key).Perm ks ∧ lo ≤ ck
  | [], lo, ks, ms, h, hm => by
    unfold keysM at h
    rw [ib_eq, nble] at h
    split at h
    · rename_i hlo
      cases h
      cases ms with
      | nil => exact ⟨by simp, by simp, by simp, by simp, by simp, by simpa using hlo⟩
      | cons x ms => exact hm.elim
    · cases h
  | (k, v, b) :: es, lo, ks, ms, h, hm => by
    cases ms with
    | nil => exact hm.elim
    | cons x ms =>
      simp only [MR] at hm
      obtain ⟨hk, hv, hb, hm⟩ := hm
      unfold keysM at h
      split at h
      · rename_i heq; cases heq
      · rename_i n c b' l heq
        cases heq
        rw [ib_eq, nble] at h
        split at h
        · rename_i hlo
          rw [ib_eq] at h
          split at h
          · rename_i hw
            obtain ⟨k', h1, h2⟩ := ob_some.1 h
            obtain ⟨i1, i2, i3, i4, i5, i6⟩ := keysM_some h1 hm
            obtain ⟨j1, j2, j3⟩ := insI_some h2 i1
            simp only [VR] at hk hv
            simp only [decide_eq_true_eq] at hlo
            subst hb
            refine ⟨j2, j3 i2, ?_, ?_, ?_, by omega⟩
            · intro y hy
              rcases List.mem_cons.1 hy with rfl | hy
              · exact ⟨n, c, hk, hv, iwf_true hw, hlo, by omega⟩
              · obtain ⟨n', b', q1, q2, q3, q4, q5⟩ := i3 y hy
                exact ⟨n', b', q1, q2, q3, by omega, q5⟩
            · simp only [List.map_cons]
              refine List.nodup_cons.2 ⟨fun hx => ?_, i4⟩
              obtain ⟨y, q1, q2⟩ := List.mem_map.1 hx
              obtain ⟨_, _, _, _, _, q4, _⟩ := i3 y q1
              omega
            · simp only [List.map_cons, hk, RowKit.intOf]
              exact (List.Perm.cons n i5).trans j1.symm
          · cases h
        · cases h
      · cases h
theorem intsV_get : ∀ (l : List Int) (j : Nat), (intsV l)[j]? = (l[j]?).map fun n => V.int .i64 n
  | [], j => by simp [intsV]
  | n :: l, j => by
    have h : intsV (n :: l) = inum n fun n => .int .i64 n :: intsV l := rfl
    rw [h, inum_eq]
    cases j with
    | zero => simp
    | succ j => simp [intsV_get l j]
theorem intsV_len : ∀ (l : List Int), (intsV l).length = l.length
  | [] => rfl
  | n :: l => by
    have h : intsV (n :: l) = inum n fun n => .int .i64 n :: intsV l := rfl
    rw [h, inum_eq]; simp [intsV_len l]
end Go.X
