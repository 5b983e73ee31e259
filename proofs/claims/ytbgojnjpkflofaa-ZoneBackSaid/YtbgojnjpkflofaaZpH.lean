/- Plain laws on lists of whole numbers and of stretches. No condition but those in each theorem. -/
import Derived.Test.YtbgojnjpkflofaaZpA
namespace Go.Proofs.Ytbgojnjpkflofaa.Zp
open Go.RowKit Go.Proofs.YtbgojnjpkflofaaW.PrintWords Go.Proofs.YtbgojnjpkflofaaW.PrintLast Go.Proofs.YtbgojnjpkflofaaW.PrintMore
open Go.Proofs.Ytbgojnjpkflofaa.P

/-! ### ascending lists -/
theorem asc_ext : ∀ {a b : List Int}, a.Pairwise (· < ·) → b.Pairwise (· < ·) → (∀ x, x ∈ a ↔ x ∈ b) → a = b
  | [], [], _, _, _ => rfl
  | [], y :: b, _, _, h => absurd ((h y).2 List.mem_cons_self) (by simp)
  | x :: a, [], _, _, h => absurd ((h x).1 List.mem_cons_self) (by simp)
  | x :: a, y :: b, ha, hb, h => by
    obtain ⟨ha1, ha2⟩ := List.pairwise_cons.1 ha
    obtain ⟨hb1, hb2⟩ := List.pairwise_cons.1 hb
    have hx := (h x).1 List.mem_cons_self
    have hy := (h y).2 List.mem_cons_self
    have e : x = y := by
      rcases List.mem_cons.1 hx with e | hx
      · exact e
      · rcases List.mem_cons.1 hy with e | hy
        · exact e.symm
        · have := ha1 y hy
          have := hb1 x hx
          omega
    subst e
    congr 1
    refine asc_ext ha2 hb2 (fun z => ⟨fun hz => ?_, fun hz => ?_⟩)
    · rcases List.mem_cons.1 ((h z).1 (List.mem_cons_of_mem _ hz)) with e | hz'
      · have := ha1 z hz; omega
      · exact hz'
    · rcases List.mem_cons.1 ((h z).2 (List.mem_cons_of_mem _ hz)) with e | hz'
      · have := hb1 z hz; omega
      · exact hz'
/-- n whole numbers from x on. -/
def ints : Int → Nat → List Int
  | _, 0 => []
  | x, n + 1 => x :: ints (x + 1) n
theorem mem_ints (n : Nat) : ∀ (x y : Int), y ∈ ints x n ↔ x ≤ y ∧ y < x + n := by
  induction n with
  | zero => intro x y; simp only [ints, List.not_mem_nil, false_iff]; omega
  | succ n ih =>
    intro x y
    simp only [ints, List.mem_cons, ih]
    omega
theorem asc_ints (n : Nat) : ∀ x : Int, (ints x n).Pairwise (· < ·) := by
  induction n with
  | zero => intro x; exact List.Pairwise.nil
  | succ n ih =>
    intro x
    refine List.pairwise_cons.2 ⟨fun y hy => ?_, ih _⟩
    have := (mem_ints n _ _).1 hy
    omega
theorem len_ints (n : Nat) : ∀ x : Int, (ints x n).length = n := by
  induction n with
  | zero => intro x; rfl
  | succ n ih => intro x; simp [ints, ih]
theorem asc_filter {l : List Int} (p : Int → Bool) (h : l.Pairwise (· < ·)) : (l.filter p).Pairwise (· < ·) := h.filter p
theorem segs_len (sf st : Int) (l : List S52) : ∀ a o : Int, (segsFrom sf st a o l).length ≤ l.length + 1 := by
  induction l with
  | nil => intro a o; simp only [segsFrom]; have := clipS_len sf st a 52596000 o; simpa using this
  | cons x r ih =>
    intro a o
    simp only [segsFrom, List.length_append, List.length_cons]
    have := clipS_len sf st a x.f0 o
    have := ih x.f0 x.f1
    omega
theorem drop54 (l : List S54) (i : Nat) (h : i < l.length) : l.drop i = rd_T54 l (i : Int) :: l.drop (i + 1) := by
  rw [List.drop_eq_getElem_cons h]
  unfold rd_T54
  rw [show ((i : Int)).toNat = i from by omega, List.getD_eq_getElem?_getD, List.getElem?_eq_getElem h]
  rfl
/-- Every stretch's ends and number are small. -/
def Small (l : List S54) : Prop := ∀ s ∈ l, -1000000000 ≤ s.f0 ∧ s.f0 ≤ 1000000000 ∧ -1000000000 ≤ s.f1 ∧ s.f1 ≤ 1000000000 ∧ -1000000000 ≤ s.f2 ∧ s.f2 ≤ 1000000000
theorem rd54_mem (l : List S54) (i : Nat) (h : i < l.length) : rd_T54 l (i : Int) ∈ l := by
  unfold rd_T54
  rw [show ((i : Int)).toNat = i from by omega, List.getD_eq_getElem?_getD, List.getElem?_eq_getElem h]
  exact List.getElem_mem h
theorem Part.mem {g : Int → Int} {l : List S54} : ∀ {A B : Int}, Part g A B l → ∀ s ∈ l, A ≤ s.f0 ∧ s.f0 < s.f1 ∧ s.f1 ≤ B ∧ s.f2 = g s.f0 := by
  induction l with
  | nil => intro A B _ s hs; cases hs
  | cons x r ih =>
    intro A B h s hs
    obtain ⟨h1, h2, h3, h4, h5⟩ := h
    rcases List.mem_cons.1 hs with rfl | hs
    · exact ⟨by omega, h2, h3, (h4 _ (by omega) h2).symm⟩
    · have := ih h5 s hs
      exact ⟨by omega, this.2⟩
theorem segs_small (sf st : Int) (o : Int) (l : List S52) (hc : Chain 0 l) (ho : offB o = true) (h0 : -500000000 ≤ sf) (h1 : sf ≤ 500000000) : Small (segsFrom sf st 0 o l) := by
  intro s hs
  have P := (segs_part sf st l 0 o hc (by omega)).mem s hs
  have h2 := offB_iff.1 (offAt_ok l 0 o hc ho s.f0)
  have h3 : mn 52596000 st ≤ 52596000 := by unfold mn; split <;> omega
  have h4 : mx 0 sf ≥ 0 := by unfold mx; split <;> omega
  omega
end Go.Proofs.Ytbgojnjpkflofaa.Zp
