/- What the document's graph answers (traceryref04), in lists. -/
import Derived.Test.YtbgefphoochgcaaGraphLaw
import Derived.Test.YtbgefphoochgcaaPAx21
import Derived.Test.YtbgefphoochgcaaPAx22
namespace Go.Proofs.Ytbgefphoochgcaa.PA
open Go.RowKit Go.Proofs.YtbgefphoochgcaaW.PrintWords Go.Proofs.YtbgefphoochgcaaW.PrintLast

theorem in_l0 (l : List Int) (x : Int) (hl : l.length ≤ 1000000) : ∀ (d i : Nat), l.length - i = d → i ≤ l.length → Ev (fun k => traceryref04_In.l0 k l x i) (decide (x ∈ l.drop i))
  | 0, i => fun hd hi => by
    obtain rfl : i = l.length := by omega
    rw [List.drop_length]
    refine Ev.step (f := fun _ => some false) (fun k => ?_) (Ev.now _)
    simp only [traceryref04_In.l0]
    rw [if_neg (by omega)]
  | d + 1, i => fun hd hi => by
    have hi' : i < l.length := by omega
    have ih := in_l0 l x hl d (i + 1) (by omega) (by omega)
    rw [List.drop_eq_getElem_cons hi']
    by_cases h : l[i] = x
    · rw [decide_eq_true (by rw [h]; exact List.mem_cons_self)]
      refine Ev.step (f := fun _ => some true) (fun k => ?_) (Ev.now _)
      simp only [traceryref04_In.l0]
      rw [if_pos (by omega), if_pos (by omega), rd_nat l i hi', if_pos h]
    · have e : decide (x ∈ l[i] :: l.drop (i + 1)) = decide (x ∈ l.drop (i + 1)) := by
        refine decide_eq_decide.2 ⟨fun hm => ?_, List.mem_cons_of_mem _⟩
        rcases List.mem_cons.1 hm with e | e
        · exact absurd e.symm h
        · exact e
      rw [e]
      refine Ev.step (f := fun k => traceryref04_In.l0 k l x ((i + 1 : Nat) : Int)) (fun k => ?_) ih
      simp only [traceryref04_In.l0]
      rw [if_pos (by omega), if_pos (by omega), rd_nat l i hi', if_neg h, wrap_id _ (by omega)]
      rfl
theorem in_ev (l : List Int) (x : Int) (hl : l.length ≤ 1000000) : Ev (fun k => traceryref04_In.f k l x) (decide (x ∈ l)) := in_l0 l x hl _ 0 rfl (by omega)

theorem ref_rises_l0 (lim : Int) (l : List Int) (hl : l.length ≤ 1000000) : ∀ (d i : Nat) (last : Int), l.length - i = d → i ≤ l.length → -1 ≤ last → (i = 0 → last = -1) → (∀ j : Nat, i = j + 1 → last = rd l j) → Ev (fun k => traceryref04_Rises.l0 k l lim i) (risesFrom lim last (l.drop i))
  | 0, i, last => fun hd hi h1 h2 h3 => by
    obtain rfl : i = l.length := by omega
    rw [List.drop_length]
    refine Ev.step (f := fun _ => some true) (fun k => ?_) (Ev.now _)
    simp only [traceryref04_Rises.l0]
    rw [if_neg (by omega)]
  | d + 1, i, last => fun hd hi h1 h2 h3 => by
    have hi' : i < l.length := by omega
    have hlast : i ≠ 0 → rd l (wrap64 ((i : Int) - 1)) = last := fun h => by
      obtain ⟨j, rfl⟩ : ∃ j, i = j + 1 := ⟨i - 1, by omega⟩
      rw [h3 j rfl, wrap_id _ (by omega)]
      congr 1
      omega
    rw [List.drop_eq_getElem_cons hi']
    simp only [risesFrom]
    by_cases hn : l[i] < 0
    · have e : (decide (last < l[i]) && decide (l[i] < lim) && risesFrom lim l[i] (l.drop (i + 1))) = false := by
        rw [decide_eq_false (by omega), Bool.false_and, Bool.false_and]
      rw [e]
      refine Ev.step (f := fun _ => some false) (fun k => ?_) (Ev.now _)
      simp only [traceryref04_Rises.l0]
      rw [if_pos (by omega), if_pos (by omega), rd_nat l i hi', if_pos hn]
    by_cases hm : l[i] ≥ lim
    · rw [decide_eq_false (show ¬ l[i] < lim by omega), Bool.and_false, Bool.false_and]
      refine Ev.step (f := fun _ => some false) (fun k => ?_) (Ev.now _)
      simp only [traceryref04_Rises.l0]
      rw [if_pos (by omega), if_pos (by omega), rd_nat l i hi', if_neg hn, if_pos hm]
    rw [decide_eq_true (show l[i] < lim by omega), Bool.and_true]
    have ih := ref_rises_l0 lim l hl d (i + 1) l[i] (by omega) (by omega) (by omega) (by omega) (fun j hj => (by rw [show j = i from by omega, rd_nat l i hi']))
    by_cases h0 : i = 0
    · subst h0
      rw [decide_eq_true (show last < l[0] by have := h2 rfl; omega), Bool.true_and]
      refine Ev.step (f := fun k => traceryref04_Rises.l0 k l lim ((0 + 1 : Nat) : Int)) (fun k => ?_) ih
      simp only [traceryref04_Rises.l0]
      rw [if_pos (by omega), if_pos (by omega), rd_nat l 0 hi', if_neg hn, if_neg hm, if_neg (by omega), wrap_id _ (by omega)]
      rfl
    · have hp := hlast h0
      have hw : wrap64 ((i : Int) - 1) = (i : Int) - 1 := wrap_id _ (by omega)
      by_cases hc : l[i] ≤ last
      · rw [decide_eq_false (show ¬ last < l[i] by omega), Bool.false_and]
        refine Ev.step (f := fun _ => some false) (fun k => ?_) (Ev.now _)
        simp only [traceryref04_Rises.l0]
        rw [if_pos (by omega), if_pos (by omega), rd_nat l i hi', if_neg hn, if_neg hm, if_pos (by omega), hp, if_pos (by rw [hw]; omega), if_pos (by rw [hw]; omega), if_pos hc]
      · rw [decide_eq_true (show last < l[i] by omega), Bool.true_and]
        refine Ev.step (f := fun k => traceryref04_Rises.l0 k l lim ((i + 1 : Nat) : Int)) (fun k => ?_) ih
        simp only [traceryref04_Rises.l0]
        rw [if_pos (by omega), if_pos (by omega), rd_nat l i hi', if_neg hn, if_neg hm, if_pos (by omega), hp, if_pos (by rw [hw]; omega), if_pos (by rw [hw]; omega), if_neg hc, wrap_id _ (by omega)]
        rfl
end Go.Proofs.Ytbgefphoochgcaa.PA
