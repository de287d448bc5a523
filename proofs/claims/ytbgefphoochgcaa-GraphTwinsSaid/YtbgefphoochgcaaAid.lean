/- What the given texts lean on: plain words on lists, and the kit's modules that they want. -/
import Derived.WalkSpells
import Derived.Lib.Hide
import Derived.BigRegion
import Derived.Test.YtbgefphoochgcaaWWords
namespace Go.Proofs.Ytbgefphoochgcaa
open Go.RowKit Go.Proofs.YtbgefphoochgcaaW.PrintWords

theorem wrap_id (n : Int) (h : -4611686018427387904 ≤ n ∧ n ≤ 4611686018427387904) : wrap64 n = n := by unfold wrap64; omega
theorem rd_nat (l : List Int) (i : Nat) (h : i < l.length) : rd l (i : Int) = l[i] := by simp [rd, List.getD_eq_getElem?_getD, h]

/-- The first place of a number (the length: it has none). -/
def findN : List Int → Int → Nat
  | [], _ => 0
  | y :: t, x => if y = x then 0 else findN t x + 1
theorem findN_lt : ∀ {l : List Int} {x : Int}, x ∈ l → findN l x < l.length
  | [], x => by simp
  | y :: t, x => by
    intro h
    unfold findN
    split
    · simp
    · rename_i hne
      have : x ∈ t := by
        rcases List.mem_cons.1 h with h | h
        · exact absurd h.symm hne
        · exact h
      have := findN_lt this
      simp only [List.length_cons]
      omega
theorem findN_get : ∀ {l : List Int} {x : Int} (h : findN l x < l.length), l[findN l x] = x
  | [], x => by simp
  | y :: t, x => by
    intro h
    by_cases hy : y = x
    · simp only [findN, hy, if_true]
      simp
    · simp only [findN, hy, if_false] at h ⊢
      simp only [List.getElem_cons_succ]
      exact findN_get (by simpa using h)
theorem findN_first : ∀ {l : List Int} {x : Int} {i : Nat} (hi : i < l.length), l[i] = x → findN l x ≤ i
  | [], x, i => by simp
  | y :: t, x, i => by
    intro hi h
    unfold findN
    split
    · omega
    · rename_i hne
      cases i with
      | zero => exact absurd h hne
      | succ i =>
        have := findN_first (l := t) (x := x) (i := i) (by simpa using hi) (by simpa using h)
        omega
/-- The first place of a number; -1. -/
def findI (l : List Int) (x : Int) : Int := if x ∈ l then (findN l x : Int) else -1
theorem findI_at {l : List Int} {x : Int} {i : Nat} (hi : i < l.length) (h : l[i] = x) (hb : ∀ j : Nat, j < i → rd l j ≠ x) : findI l x = (i : Int) := by
  have hm : x ∈ l := h ▸ List.getElem_mem hi
  unfold findI
  rw [if_pos hm]
  have h1 := findN_first hi h
  rcases Nat.lt_or_ge (findN l x) i with h2 | h2
  · exfalso
    have h3 := findN_lt hm
    refine hb _ h2 ?_
    rw [rd_nat l _ h3]
    exact findN_get h3
  · congr 1
    omega
theorem findI_none {l : List Int} {x : Int} (hb : ∀ j : Nat, j < l.length → rd l j ≠ x) : findI l x = -1 := by
  unfold findI
  rw [if_neg]
  intro hm
  obtain ⟨j, hj, e⟩ := List.getElem_of_mem hm
  exact hb j hj (by rw [rd_nat l j hj]; exact e)
theorem findI_neg (l : List Int) (x : Int) : findI l x < 0 ↔ x ∉ l := by
  unfold findI
  split
  · rename_i h
    constructor
    · intro h2; omega
    · intro h2; exact absurd h h2
  · rename_i h
    exact ⟨fun _ => h, fun _ => by omega⟩
theorem findI_nonneg (l : List Int) (x : Int) : 0 ≤ findI l x ↔ x ∈ l := by
  have := findI_neg l x
  constructor
  · intro h
    by_cases hm : x ∈ l
    · exact hm
    · have := this.2 hm; omega
  · intro h
    rcases Int.lt_or_le (findI l x) 0 with h2 | h2
    · exact absurd h (this.1 h2)
    · exact h2
theorem findI_lt (l : List Int) (x : Int) : findI l x < l.length := by
  unfold findI
  split
  · rename_i h; have := findN_lt h; omega
  · omega
/-- No number stands twice. -/
def nodupB (l : List Int) : Bool := decide l.Nodup

/-! ### sorting, as the kernel can run it -/
def isins (x : Int) : List Int → List Int
  | [] => [x]
  | y :: l => if x ≤ y then x :: y :: l else y :: isins x l
def isort : List Int → List Int
  | [] => []
  | x :: l => isins x (isort l)
theorem isins_perm (x : Int) : ∀ l, (isins x l).Perm (x :: l)
  | [] => List.Perm.refl _
  | y :: l => by
    unfold isins
    split
    · exact List.Perm.refl _
    · exact ((isins_perm x l).cons y).trans (List.Perm.swap x y l)
theorem isort_perm : ∀ l, (isort l).Perm l
  | [] => List.Perm.refl _
  | x :: l => (isins_perm x (isort l)).trans ((isort_perm l).cons x)
theorem isort_length (l : List Int) : (isort l).length = l.length := (isort_perm l).length_eq
theorem isins_sorted (x : Int) : ∀ l : List Int, l.Pairwise (· ≤ ·) → (isins x l).Pairwise (· ≤ ·)
  | [], _ => List.pairwise_singleton _ _
  | y :: l, h => by
    unfold isins
    rw [List.pairwise_cons] at h
    split
    · rename_i hxy
      refine List.pairwise_cons.2 ⟨fun z hz => ?_, List.pairwise_cons.2 h⟩
      rcases List.mem_cons.1 hz with rfl | hz
      · exact hxy
      · have := h.1 z hz; omega
    · rename_i hxy
      refine List.pairwise_cons.2 ⟨fun z hz => ?_, isins_sorted x l h.2⟩
      rcases List.mem_cons.1 ((isins_perm x l).mem_iff.1 hz) with rfl | hz
      · omega
      · exact h.1 z hz
theorem isort_sorted : ∀ l : List Int, (isort l).Pairwise (· ≤ ·)
  | [] => List.Pairwise.nil
  | x :: l => isins_sorted x _ (isort_sorted l)
theorem sorted_unique : ∀ (a b : List Int), a.Pairwise (· ≤ ·) → b.Pairwise (· ≤ ·) → a.Perm b → a = b
  | [], b, _, _, h => (List.Perm.nil_eq h)
  | x :: a, [], _, _, h => absurd h.length_eq (by simp)
  | x :: a, y :: b, ha, hb, h => by
    rw [List.pairwise_cons] at ha hb
    have hxy : x = y := by
      have h1 : y ≤ x := by
        rcases List.mem_cons.1 (h.mem_iff.1 (List.mem_cons_self)) with e | e
        · omega
        · exact hb.1 x e
      have h2 : x ≤ y := by
        rcases List.mem_cons.1 (h.mem_iff.2 (List.mem_cons_self)) with e | e
        · omega
        · exact ha.1 y e
      omega
    subst hxy
    rw [sorted_unique a b ha.2 hb.2 (List.Perm.cons_inv h)]
theorem mergeSort_isort (l : List Int) : l.mergeSort (fun x y => decide (x ≤ y)) = isort l := by
  refine sorted_unique _ _ ?_ (isort_sorted l) ((List.mergeSort_perm l _).trans (isort_perm l).symm)
  have h := List.pairwise_mergeSort (le := fun x y : Int => decide (x ≤ y)) (by simp; omega) (by simp; omega) l
  exact h.imp (by simp)
end Go.Proofs.Ytbgefphoochgcaa
