/- Chapter 4 over FE's functions: what graph's functions and the reference's answer, in lists. -/
import Derived.Test.YtbgefphoochgcaaFx0
import Derived.Test.YtbgefphoochgcaaFeM3
namespace Go.Proofs.Ytbgefphoochgcaa.FX
open Go Go.Proofs.Ytbgefphoochgcaa.FE
set_option linter.unusedVariables false
set_option linter.unusedSimpArgs false
abbrev Gr := Int × List (Int × Int)
abbrev Pt := List Int × List Int
theorem nat_wrap {i n : Nat} (hi : i < n) (hn : n ≤ 9223372036854775807) : IntKind.i64.wrap ((i : Int) + 1) = (i : Int) + 1 := w64 (by omega)

/-! ### graphs that are right -/
def insideB (n v : Int) : Bool := decide (0 ≤ v) && decide (v < n)
theorem inside_eq (k : Nat) (p : Gr) (v : Int) : graph_inside.g k p v = some (insideB p.1 v) := by
  show (bif decide (v ≥ 0) then some (decide (v < p.1)) else some false) = _
  unfold insideB
  by_cases h : 0 ≤ v <;> simp [h]
def edgesB (n : Int) (E : List (Int × Int)) : Bool := E.all fun e => insideB n e.1 && insideB n e.2
def rightG (p : Gr) : Int := if p.1 < 0 then 3 else if p.1 > 1024 then 2 else if (p.2.length : Int) > 1024 - p.1 then 2 else if edgesB p.1 p.2 then 0 else 3
theorem edges_cons {n : Int} {E : List (Int × Int)} {i : Nat} (h : i < E.length) : edgesB n (E.drop i) = ((insideB n E[i].1 && insideB n E[i].2) && edgesB n (E.drop (i + 1))) := by
  rw [List.drop_eq_getElem_cons h]; rfl
theorem right_ev (p : Gr) : EvS (fun k => graph_Right.g k p) (some (rightG p)) := by
  unfold graph_Right.g rightG
  by_cases h0 : p.1 < 0
  · simp only [h0, decide_true, cond_true, if_true]; exact EvS.const _
  by_cases h1 : p.1 > 1024
  · simp only [h0, h1, decide_true, decide_false, cond_true, cond_false, if_true, if_false]; exact EvS.const _
  rw [w64 (by omega : -9223372036854775808 ≤ 1024 - p.1 ∧ 1024 - p.1 ≤ 9223372036854775807)]
  by_cases h2 : (p.2.length : Int) > 1024 - p.1
  · simp only [h0, h1, h2, decide_true, decide_false, cond_true, cond_false, if_true, if_false]; exact EvS.const _
  simp only [h0, h1, h2, decide_false, cond_false, if_false]
  refine EvS.bind (count_ev0 p.2.length (fun i => some (if edgesB p.1 (p.2.drop i) then .out (p.2.length : Int) else .ret 3)) ?_ fun i hi => ?_) ?_
  · exact EvS.of fun k => funext fun self => by simp [graph_Right.l6, edgesB]
  · simp only [edges_cons hi]
    by_cases h3 : insideB p.1 p.2[i].1 = true
    · by_cases h4 : insideB p.1 p.2[i].2 = true
      · exact .inr ⟨by simp [h3, h4], EvS.of fun k => funext fun self => by simp [graph_Right.l6, hi, idx_nat, inside_eq, h3, h4, nat_wrap hi (by omega)]⟩
      · exact .inl (EvS.of fun k => funext fun self => by simp [graph_Right.l6, hi, idx_nat, inside_eq, h3, h4])
    · exact .inl (EvS.of fun k => funext fun self => by simp [graph_Right.l6, hi, idx_nat, inside_eq, h3])
  · by_cases h : edgesB p.1 p.2 = true <;> simp [h, LO.elim] <;> exact EvS.const _
theorem right_ref (p : Gr) : EvS (fun k => traceryref04_Right.g k p) (some (rightG p)) := by
  unfold traceryref04_Right.g rightG
  by_cases h0 : p.1 < 0
  · simp only [h0, decide_true, cond_true, if_true]; exact EvS.const _
  by_cases h1 : p.1 > 1024
  · simp only [h0, h1, decide_true, decide_false, cond_true, cond_false, if_true, if_false]; exact EvS.const _
  by_cases h5 : (p.2.length : Int) > 1024
  · have h2 : (p.2.length : Int) > 1024 - p.1 := by omega
    simp only [h0, h1, h2, h5, decide_true, decide_false, cond_true, cond_false, if_true, if_false]; exact EvS.const _
  rw [w64 (by omega : -9223372036854775808 ≤ p.1 + (p.2.length : Int) ∧ p.1 + (p.2.length : Int) ≤ 9223372036854775807)]
  by_cases h2 : (p.2.length : Int) > 1024 - p.1
  · have h6 : p.1 + (p.2.length : Int) > 1024 := by omega
    simp only [h0, h1, h2, h5, h6, decide_true, decide_false, cond_true, cond_false, if_true, if_false]; exact EvS.const _
  have h6 : ¬ p.1 + (p.2.length : Int) > 1024 := by omega
  simp only [h0, h1, h2, h5, h6, decide_false, cond_false, if_false]
  refine EvS.bind (count_ev0 p.2.length (fun i => some (if edgesB p.1 (p.2.drop i) then .out (p.2.length : Int) else .ret 3)) ?_ fun i hi => ?_) ?_
  · exact EvS.of fun k => funext fun self => by simp [traceryref04_Right.l6, edgesB]
  · simp only [edges_cons hi, insideB]
    by_cases a1 : p.2[i].1 < 0
    · exact .inl (EvS.of fun k => funext fun self => by simp [traceryref04_Right.l6, hi, idx_nat, a1, show ¬ 0 ≤ p.2[i].1 by omega])
    by_cases a2 : p.2[i].1 ≥ p.1
    · exact .inl (EvS.of fun k => funext fun self => by simp [traceryref04_Right.l6, hi, idx_nat, a1, a2, show ¬ p.2[i].1 < p.1 by omega])
    by_cases a3 : p.2[i].2 < 0
    · exact .inl (EvS.of fun k => funext fun self => by simp [traceryref04_Right.l6, hi, idx_nat, a1, a2, a3, show ¬ 0 ≤ p.2[i].2 by omega, show ¬ p.1 ≤ p.2[i].1 by omega])
    by_cases a4 : p.2[i].2 ≥ p.1
    · exact .inl (EvS.of fun k => funext fun self => by simp [traceryref04_Right.l6, hi, idx_nat, a1, a2, a3, a4, show ¬ p.2[i].2 < p.1 by omega, show ¬ p.1 ≤ p.2[i].1 by omega])
    exact .inr ⟨by simp [show 0 ≤ p.2[i].1 by omega, show 0 ≤ p.2[i].2 by omega, show p.2[i].1 < p.1 by omega, show p.2[i].2 < p.1 by omega], EvS.of fun k => funext fun self => by
      simp [traceryref04_Right.l6, hi, idx_nat, a1, a3, show ¬ p.1 ≤ p.2[i].1 by omega, show ¬ p.1 ≤ p.2[i].2 by omega, nat_wrap hi (by omega)]⟩
  · by_cases h : edgesB p.1 p.2 = true <;> simp [h, LO.elim] <;> exact EvS.const _

/-! ### lists that rise -/
def risesFrom (lim : Int) : Int → List Int → Bool
  | _, [] => true
  | last, x :: t => decide (last < x) && decide (x < lim) && risesFrom lim x t
def risesB (l : List Int) (lim : Int) : Bool := risesFrom lim (-1) l
theorem rises_ev (l : List Int) (lim : Int) (hl : l.length ≤ 9223372036854775807) : EvS (fun k => graph_rises.g k l lim) (some (risesB l lim)) := by
  unfold graph_rises.g
  obtain ⟨r, hq, hr⟩ := count_inv (step := fun k self z => graph_rises.l3 l lim self z.1 z.2) l.length (fun i last => risesB l lim = risesFrom lim last (l.drop i)) (fun r => match r with | .out _ => risesB l lim = true | .ret b => b = risesB l lim | .ex _ => False)
    (fun s hJ => ⟨.out ((l.length : Int), s), by simpa [risesFrom] using hJ, EvS.of fun k => funext fun self => by simp [graph_rises.l3]⟩)
    (fun i last hi hJ => by
      rw [List.drop_eq_getElem_cons hi] at hJ
      simp only [risesFrom] at hJ
      by_cases h0 : l[i] ≤ last
      · exact .inl ⟨.ret false, by rw [hJ]; simp [show ¬ last < l[i] by omega], EvS.of fun k => funext fun self => by simp [graph_rises.l3, hi, idx_nat, h0]⟩
      by_cases h1 : l[i] ≥ lim
      · exact .inl ⟨.ret false, by rw [hJ]; simp [show ¬ l[i] < lim by omega], EvS.of fun k => funext fun self => by simp [graph_rises.l3, hi, idx_nat, h0, h1]⟩
      exact .inr ⟨l[i], by rw [hJ]; simp [show last < l[i] by omega, show l[i] < lim by omega], EvS.of fun k => funext fun self => by simp [graph_rises.l3, hi, idx_nat, h0, show ¬ lim ≤ l[i] by omega, nat_wrap hi hl]⟩)
    (-1) rfl
  refine EvS.bind hr ?_
  cases r with
  | out z => rw [hq]; exact EvS.const _
  | ret b => rw [← hq]; exact EvS.const _
  | ex _ => exact hq.elim
def lastOf (l : List Int) (i : Nat) : Int := if i = 0 then -1 else l.getD (i - 1) 0
theorem rises_ref (l : List Int) (lim : Int) (hl : l.length ≤ 9223372036854775807) : EvS (fun k => traceryref04_Rises.g k l lim) (some (risesB l lim)) := by
  unfold traceryref04_Rises.g
  obtain ⟨r, hq, hr⟩ := count_inv0 (step := fun k self z => traceryref04_Rises.l2 l lim self z) l.length (fun i => risesB l lim = risesFrom lim (lastOf l i) (l.drop i) ∧ -1 ≤ lastOf l i) (fun r => match r with | .out _ => risesB l lim = true | .ret b => b = risesB l lim | .ex _ => False)
    (fun hJ => ⟨.out (l.length : Int), by simpa [risesFrom] using hJ.1, EvS.of fun k => funext fun self => by simp [traceryref04_Rises.l2]⟩)
    (fun i hi ⟨hJ, hlo⟩ => by
      rw [List.drop_eq_getElem_cons hi] at hJ
      simp only [risesFrom] at hJ
      by_cases h0 : l[i] < 0
      · exact .inl ⟨.ret false, by rw [hJ]; simp [show ¬ lastOf l i < l[i] by omega], EvS.of fun k => funext fun self => by simp [traceryref04_Rises.l2, hi, idx_nat, h0]⟩
      by_cases h1 : l[i] ≥ lim
      · exact .inl ⟨.ret false, by rw [hJ]; simp [show ¬ l[i] < lim by omega], EvS.of fun k => funext fun self => by simp [traceryref04_Rises.l2, hi, idx_nat, h0, h1]⟩
      have hs : lastOf l (i + 1) = l[i] := by simp [lastOf, hi]
      by_cases hz : i = 0
      · subst hz
        exact .inr ⟨by rw [hs, hJ]; simp [lastOf, show -1 < l[0] by omega, show l[0] < lim by omega]; omega, EvS.of fun k => funext fun self => by simp [traceryref04_Rises.l2, hi, show idx l 0 = some l[0] from idx_nat l 0 hi, h0, show ¬ lim ≤ l[0] by omega, w64]⟩
      · have hp : lastOf l i = l[i - 1] := by simp [lastOf, hz, show i - 1 < l.length by omega]
        have hw : IntKind.i64.wrap ((i : Int) - 1) = ((i - 1 : Nat) : Int) := by rw [w64 (by omega)]; omega
        have hi0 : 0 < i := by omega
        by_cases h2 : l[i] ≤ l[i - 1]
        · exact .inl ⟨.ret false, by rw [hJ]; simp [show ¬ lastOf l i < l[i] by omega], EvS.of fun k => funext fun self => by simp [traceryref04_Rises.l2, hi, idx_nat, h0, show ¬ lim ≤ l[i] by omega, hi0, hw, show i - 1 < l.length by omega, h2]⟩
        · exact .inr ⟨⟨by rw [hs, hJ]; simp [show lastOf l i < l[i] by omega, show l[i] < lim by omega], by omega⟩, EvS.of fun k => funext fun self => by simp [traceryref04_Rises.l2, hi, idx_nat, h0, show ¬ lim ≤ l[i] by omega, hi0, hw, show i - 1 < l.length by omega, h2, nat_wrap hi hl]⟩)
    ⟨rfl, by simp [lastOf]⟩
  refine EvS.bind hr ?_
  cases r with
  | out z => rw [hq]; exact EvS.const _
  | ret b => rw [← hq]; exact EvS.const _
  | ex _ => exact hq.elim
theorem risesFrom_spec (lim : Int) : ∀ (l : List Int) (last : Int), risesFrom lim last l = true → (∀ x ∈ l, last < x ∧ x < lim) ∧ l.Pairwise (· < ·)
  | [], _, _ => ⟨by simp, List.Pairwise.nil⟩
  | x :: t, last, h => by
    simp only [risesFrom, Bool.and_eq_true, decide_eq_true_eq] at h
    obtain ⟨⟨h1, h2⟩, h3⟩ := h
    obtain ⟨h4, h5⟩ := risesFrom_spec lim t x h3
    refine ⟨fun y hy => ?_, List.pairwise_cons.2 ⟨fun y hy => (h4 y hy).1, h5⟩⟩
    rcases List.mem_cons.1 hy with rfl | hy
    · exact ⟨h1, h2⟩
    · exact ⟨by have := (h4 y hy).1; omega, (h4 y hy).2⟩
theorem risesB_spec {l : List Int} {lim : Int} (h : risesB l lim = true) : (∀ x ∈ l, 0 ≤ x ∧ x < lim) ∧ l.Pairwise (· < ·) :=
  ⟨fun x hx => by have := (risesFrom_spec lim l (-1) h).1 x hx; omega, (risesFrom_spec lim l (-1) h).2⟩

/-! ### are two lists the same? -/
theorem take_next {l m : List Int} {i : Nat} (hi : i < l.length) (hm : i < m.length) (h : l.take i = m.take i) (e : l[i] = m[i]) : l.take (i + 1) = m.take (i + 1) := by
  rw [List.take_succ_eq_append_getElem hi, List.take_succ_eq_append_getElem hm, h, e]
theorem equal_ev (l m : List Int) (hl : l.length ≤ 9223372036854775807) : EvS (fun k => slices_Equal.g k l m) (some (decide (l = m))) := by
  unfold slices_Equal.g
  by_cases hlen : (l.length : Int) = m.length
  · simp only [hlen, decide_true, Bool.not_true, cond_false]
    obtain ⟨r, hq, hr⟩ := count_inv0 (step := fun k self z => slices_Equal.l4 l m self z) l.length (fun i => l.take i = m.take i) (fun r => match r with | .out _ => l = m | .ret b => b = false ∧ l ≠ m | .ex _ => False)
      (fun hJ => ⟨.out (l.length : Int), by rw [List.take_length, List.take_of_length_le (by omega)] at hJ; exact hJ, EvS.of fun k => funext fun self => by simp [slices_Equal.l4]⟩)
      (fun i hi hJ => by
        have hm : i < m.length := by omega
        by_cases e : l[i] = m[i]
        · exact .inr ⟨take_next hi hm hJ e, EvS.of fun k => funext fun self => by simp [slices_Equal.l4, hi, hm, idx_nat, e, nat_wrap hi hl]⟩
        · exact .inl ⟨.ret false, ⟨rfl, fun h => e (by subst h; rfl)⟩, EvS.of fun k => funext fun self => by simp [slices_Equal.l4, hi, hm, idx_nat, e]⟩) rfl
    refine EvS.bind hr ?_
    cases r with
    | out z => simp only [hq, decide_true]; exact EvS.const _
    | ret b => obtain ⟨rfl, h⟩ := hq; simp only [h, decide_false]; exact EvS.const _
    | ex _ => exact hq.elim
  · have : l ≠ m := fun h => hlen (by subst h; rfl)
    simp only [hlen, this, decide_false, Bool.not_false, cond_true]; exact EvS.const _
theorem equal_ref (l m : List Int) (hl : l.length ≤ 9223372036854775807) : EvS (fun k => traceryref04_Equal.g k l m) (some (decide (l = m))) := equal_ev l m hl
theorem same_ev (p q : Pt) (h0 : p.1.length ≤ 9223372036854775807) (h1 : p.2.length ≤ 9223372036854775807) : EvS (fun k => graph_Same.g k p q) (some (decide (p = q))) := by
  unfold graph_Same.g
  refine EvS.bind (equal_ev p.1 q.1 h0) ?_
  by_cases h : p.1 = q.1
  · simp only [h, decide_true, cond_true]
    refine EvS.bind (equal_ev p.2 q.2 h1) ?_
    simp only [Prod.ext_iff, h, true_and]
    exact EvS.const _
  · simp only [h, decide_false, cond_false, Prod.ext_iff, false_and]; exact EvS.const _
theorem same_ref (p q : Pt) (h0 : p.1.length ≤ 9223372036854775807) (h1 : p.2.length ≤ 9223372036854775807) : EvS (fun k => traceryref04_Same.g k p q) (some (decide (p = q))) := same_ev p q h0 h1
end Go.Proofs.Ytbgefphoochgcaa.FX
