/- What the given texts lean on: plain words on lists, and the kit's modules that they want. -/
import Derived.WalkSpells
import Derived.Lib.Hide
import Derived.BigRegion
import Derived.Test.YtcfclhlgjpidhaaWWords
namespace Go.Proofs.Ytcfclhlgjpidhaa
open Go.RowKit Go.Proofs.YtcfclhlgjpidhaaW.PrintWords

theorem wrap_id (n : Int) (h : -4611686018427387904 ≤ n ∧ n ≤ 4611686018427387904) : wrap64 n = n := by unfold wrap64; omega
theorem rd_nat (l : List Int) (i : Nat) (h : i < l.length) : rd l (i : Int) = l[i] := by simp [rd, List.getD_eq_getElem?_getD, h]

/-- The first place of a number (the length: it has none). -/
def findN : List Int → Int → Nat
  | [], _ => 0
  | y :: t, x => if y = x then 0 else findN t x + 1
theorem findN_lt : ∀ {l : List Int} {x : Int}, x ∈ l → findN l x < l.length
  | [], x => by simp
  | y :: t, x => by
    intro h
    unfold findN
    split
    · simp
    · rename_i hne
      have : x ∈ t := by
        rcases List.mem_cons.1 h with h | h
        · exact absurd h.symm hne
        · exact h
      have := findN_lt this
      simp only [List.length_cons]
      omega
theorem findN_get : ∀ {l : List Int} {x : Int} (h : findN l x < l.length), l[findN l x] = x
  | [], x => by simp
  | y :: t, x => by
    intro h
    by_cases hy : y = x
    · simp only [findN, hy, if_true]
      simp
    · simp only [findN, hy, if_false] at h ⊢
      simp only [List.getElem_cons_succ]
      exact findN_get (by simpa using h)
theorem findN_first : ∀ {l : List Int} {x : Int} {i : Nat} (hi : i < l.length), l[i] = x → findN l x ≤ i
  | [], x, i => by simp
  | y :: t, x, i => by
    intro hi h
    unfold findN
    split
    · omega
    · rename_i hne
      cases i with
      | zero => exact absurd h hne
      | succ i =>
        have := findN_first (l := t) (x := x) (i := i) (by simpa using hi) (by simpa using h)
        omega
/-- The first place of a number; -1. -/
def findI (l : List Int) (x : Int) : Int := if x ∈ l then (findN l x : Int) else -1
theorem findI_at {l : List Int} {x : Int} {i : Nat} (hi : i < l.length) (h : l[i] = x) (hb : ∀ j : Nat, j < i → rd l j ≠ x) : findI l x = (i : Int) := by
  have hm : x ∈ l := h ▸ List.getElem_mem hi
  unfold findI
  rw [if_pos hm]
  have h1 := findN_first hi h
  rcases Nat.lt_or_ge (findN l x) i with h2 | h2
  · exfalso
    have h3 := findN_lt hm
    refine hb _ h2 ?_
    rw [rd_nat l _ h3]
    exact findN_get h3
  · congr 1
    omega
theorem findI_none {l : List Int} {x : Int} (hb : ∀ j : Nat, j < l.length → rd l j ≠ x) : findI l x = -1 := by
  unfold findI
  rw [if_neg]
  intro hm
  obtain ⟨j, hj, e⟩ := List.getElem_of_mem hm
  exact hb j hj (by rw [rd_nat l j hj]; exact e)
theorem findI_neg (l : List Int) (x : Int) : findI l x < 0 ↔ x ∉ l := by
  unfold findI
  split
  · rename_i h
    constructor
    · intro h2; omega
    · intro h2; exact absurd h h2
  · rename_i h
    exact ⟨fun _ => h, fun _ => by omega⟩
theorem findI_nonneg (l : List Int) (x : Int) : 0 ≤ findI l x ↔ x ∈ l := by
  have := findI_neg l x
  constructor
  · intro h
    by_cases hm : x ∈ l
    · exact hm
    · have := this.2 hm; omega
  · intro h
    rcases Int.lt_or_le (findI l x) 0 with h2 | h2
    · exact absurd h (this.1 h2)
    · exact h2
theorem findI_lt (l : List Int) (x : Int) : findI l x < l.length := by
  unfold findI
  split
  · rename_i h; have := findN_lt h; omega
  · omega
/-- No number stands twice. -/
def nodupB (l : List Int) : Bool := decide l.Nodup
end Go.Proofs.Ytcfclhlgjpidhaa
