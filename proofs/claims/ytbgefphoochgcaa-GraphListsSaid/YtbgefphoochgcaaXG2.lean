/- Chapter 4 over FE's functions: spans. -/
import Derived.Test.YtbgefphoochgcaaXG1
namespace Go.Proofs.Ytbgefphoochgcaa.FX
open Go Go.Proofs.Ytbgefphoochgcaa.FE
set_option linter.unusedVariables false
set_option linter.unusedSimpArgs false
def eAt (E : List (Int × Int)) (x : Int) : Int × Int := E.getD x.toNat (0, 0)
theorem eAt_idx {E : List (Int × Int)} {x : Int} (h0 : 0 ≤ x) (h1 : x < E.length) : idx E x = some (eAt E x) := by
  unfold idx eAt
  have : x.toNat < E.length := by omega
  simp [h0, this]
def endsOf (E : List (Int × Int)) (l : List Int) : List Int := l.flatMap fun x => [(eAt E x).1, (eAt E x).2]
theorem endsOf_length (E : List (Int × Int)) (l : List Int) : (endsOf E l).length = 2 * l.length := by
  induction l with
  | nil => rfl
  | cons x l ih => simp only [endsOf, List.flatMap_cons, List.length_append] at ih ⊢; rw [ih]; simp; omega
theorem endsOf_take {E : List (Int × Int)} {l : List Int} {i : Nat} (hi : i < l.length) : endsOf E (l.take (i + 1)) = endsOf E (l.take i) ++ [(eAt E l[i]).1, (eAt E l[i]).2] := by
  unfold endsOf
  rw [List.take_succ_eq_append_getElem hi, List.flatMap_append, List.flatMap_cons, List.flatMap_nil, List.append_nil]
def spanG (p : Gr) (l : List Int) : Pt × Int := if rightG p ≠ 0 then (([], []), rightG p) else if risesB l p.2.length then ((Lib.compact (isort (endsOf p.2 l)), l), 0) else (([], []), 4)
theorem compact_len (l : List Int) : (Lib.compact (isort l)).length ≤ l.length := by
  have := Lib.compact_length_le (isort l)
  rw [isort_length] at this
  exact this
theorem span_ev (p : Gr) (l : List Int) (hl : l.length ≤ 1000000) : EvS (fun k => graph_Span.g k p l) (some (spanG p l)) := by
  unfold graph_Span.g spanG
  refine EvS.bind (right_ev p) ?_
  by_cases h0 : rightG p = 0
  · simp only [h0, decide_true, Bool.not_true, cond_false, ne_eq, not_true_eq_false, if_false]
    refine EvS.bind (rises_ev l p.2.length (by omega)) ?_
    by_cases h1 : risesB l p.2.length = true
    · simp only [h1, Bool.not_true, cond_false, if_true]
      have hb := (risesB_spec h1).1
      refine EvS.bind (f := fun k => slices_Clone.g k l) (y := l) (EvS.of fun k => by simp [slices_Clone.g, lim_true (show l.length ≤ LIM by unfold LIM; omega)]) ?_
      obtain ⟨r, hq, hr⟩ := count_inv (step := fun k self z => graph_Span.l8 p l self z.1 z.2) l.length (fun i b => b = endsOf p.2 (l.take i)) (fun r => ∃ i, r = .out (i, endsOf p.2 l))
        (fun s hJ => ⟨.out ((l.length : Int), s), ⟨(l.length : Int), by rw [hJ, List.take_length]⟩, EvS.of fun k => funext fun self => by simp [graph_Span.l8]⟩)
        (fun i b hi hJ => by
          have hm := hb l[i] (List.getElem_mem hi)
          have hbl : b.length = 2 * i := by rw [hJ, endsOf_length, List.length_take]; omega
          exact .inr ⟨b ++ [(eAt p.2 l[i]).1, (eAt p.2 l[i]).2], by rw [endsOf_take hi, hJ], EvS.of fun k => funext fun self => by
            simp [graph_Span.l8, hi, idx_nat, eAt_idx hm.1 hm.2, lim_true (show b.length + 2 ≤ LIM by unfold LIM; omega), nat_wrap hi (by omega)]⟩)
        [] rfl
      refine EvS.bind hr ?_
      obtain ⟨i, rfl⟩ := hq
      have hel := endsOf_length p.2 l
      refine EvS.of fun k => ?_
      simp [LO.elim, slices_Sort.g, slices_Compact.g, isort_length, lim_true (show (endsOf p.2 l).length ≤ LIM by unfold LIM; omega)]
    · simp only [h1, Bool.not_false, cond_true, if_false]; exact EvS.const _
  · simp only [h0, decide_false, Bool.not_false, cond_true, ne_eq, not_false_eq_true, if_true]; exact EvS.const _

/-! ### the reference's -/
def touchB (E : List (Int × Int)) (l : List Int) (v : Int) : Bool := l.any fun x => decide ((eAt E x).1 = v) || decide ((eAt E x).2 = v)
def upN (n : Nat) : List Int := (List.range n).map fun (i : Nat) => (i : Int)
theorem upN_succ (n : Nat) : upN (n + 1) = upN n ++ [(n : Int)] := by simp [upN, List.range_succ]
theorem upN_mem (n : Nat) (x : Int) : x ∈ upN n ↔ 0 ≤ x ∧ x < n := by
  simp only [upN, List.mem_map, List.mem_range]
  constructor
  · rintro ⟨i, hi, rfl⟩; omega
  · rintro ⟨h0, h1⟩; exact ⟨x.toNat, by omega, by omega⟩
theorem upN_rise (n : Nat) : (upN n).Pairwise (· < ·) := by
  unfold upN
  rw [List.pairwise_map]
  exact (List.pairwise_lt_range (n := n)).imp (by intro a b h; omega)
theorem span_ref_in (p : Gr) (l : List Int) (v : Int) (b : List Int) (hl : l.length ≤ 1000000) (hb : b.length ≤ 1000000) (hm : ∀ x ∈ l, 0 ≤ x ∧ x < (p.2.length : Int)) :
    ∃ r, (∃ i, r = .out (i, b ++ if touchB p.2 l v then [v] else [])) ∧ EvS (fun k => iter (fun self z => traceryref04_Span.l7 p l v self z.1 z.2) k (0, b)) (some r) := by
  have hlim : limB (b.length + 1) = true := lim_true (by unfold LIM; omega)
  refine count_inv (step := fun k self z => traceryref04_Span.l7 p l v self z.1 z.2) l.length (fun i b' => b' = b ∧ touchB p.2 l v = touchB p.2 (l.drop i) v) _ ?_ ?_ b ⟨rfl, rfl⟩
  · rintro s ⟨rfl, hJ⟩
    simp [touchB] at hJ
    refine ⟨.out ((l.length : Int), s), ⟨(l.length : Int), ?_⟩, EvS.of fun k => funext fun self => by simp [traceryref04_Span.l7]⟩
    have : touchB p.2 l v = false := by unfold touchB; simpa using hJ
    simp [this]
  · rintro i s hi ⟨rfl, hJ⟩
    have hx := hm l[i] (List.getElem_mem hi)
    rw [List.drop_eq_getElem_cons hi] at hJ
    have hJ : touchB p.2 l v = ((decide ((eAt p.2 l[i]).1 = v) || decide ((eAt p.2 l[i]).2 = v)) || touchB p.2 (l.drop (i + 1)) v) := hJ
    by_cases h0 : (eAt p.2 l[i]).1 = v
    · exact .inl ⟨.out ((i : Int), s ++ [v]), ⟨i, by rw [hJ]; simp [h0]⟩, EvS.of fun k => funext fun self => by simp [traceryref04_Span.l7, hi, idx_nat, eAt_idx hx.1 hx.2, h0, hlim]⟩
    by_cases h1 : (eAt p.2 l[i]).2 = v
    · exact .inl ⟨.out ((i : Int), s ++ [v]), ⟨i, by rw [hJ]; simp [h1]⟩, EvS.of fun k => funext fun self => by simp [traceryref04_Span.l7, hi, idx_nat, eAt_idx hx.1 hx.2, h0, h1, hlim]⟩
    exact .inr ⟨s, ⟨rfl, by rw [hJ]; simp [h0, h1]⟩, EvS.of fun k => funext fun self => by simp [traceryref04_Span.l7, hi, idx_nat, eAt_idx hx.1 hx.2, h0, h1, nat_wrap hi (by omega)]⟩
theorem span_ref (p : Gr) (l : List Int) (hl : l.length ≤ 1000000) (h0 : 0 ≤ p.1) (h1 : p.1 ≤ 1000000) (hm : ∀ x ∈ l, 0 ≤ x ∧ x < (p.2.length : Int)) :
    EvS (fun k => traceryref04_Span.g k p l) (some ((upN p.1.toNat).filter (touchB p.2 l), l)) := by
  unfold traceryref04_Span.g
  simp only [lim_true (show l.length ≤ LIM by unfold LIM; omega), cond_true]
  obtain ⟨r, hq, hr⟩ := count_inv (step := fun k self z => traceryref04_Span.l4 k p l self z.1 z.2) p.1.toNat (fun i b => b = (upN i).filter (touchB p.2 l)) (fun r => ∃ i, r = .out (i, (upN p.1.toNat).filter (touchB p.2 l)))
    (fun s hJ => ⟨.out (((p.1.toNat : Nat) : Int), s), ⟨((p.1.toNat : Nat) : Int), by rw [hJ]⟩, EvS.of fun k => funext fun self => by simp [traceryref04_Span.l4, show max p.1 0 = p.1 by omega]⟩)
    (fun i b hi hJ => by
      have hbl : b.length ≤ i := by rw [hJ]; exact Nat.le_trans (List.length_filter_le ..) (by simp [upN])
      obtain ⟨r, ⟨j, hq⟩, K, hr⟩ := span_ref_in p l i b hl (by omega) hm
      refine .inr ⟨b ++ (if touchB p.2 l i then [(i : Int)] else []), ?_, K, fun k hk => funext fun self => ?_⟩
      · rw [upN_succ, List.filter_append, hJ]
        by_cases h : touchB p.2 l i = true <;> simp [h]
      · simp only [traceryref04_Span.l4]
        rw [show iter (fun self z5 => traceryref04_Span.l7 p l (i : Int) self z5.1 z5.2) k (0, b) = some r from hr k hk, hq]
        simp [show (i : Int) < p.1 by omega, LO.elim, nat_wrap hi (by omega)])
    [] rfl
  refine EvS.bind hr ?_
  obtain ⟨i, rfl⟩ := hq
  exact EvS.const _

/-! ### both are the same -/
theorem rightG_zero {p : Gr} (h : rightG p = 0) : 0 ≤ p.1 ∧ p.1 ≤ 1024 ∧ (p.2.length : Int) ≤ 1024 - p.1 ∧ edgesB p.1 p.2 = true := by
  unfold rightG at h
  split at h
  · omega
  split at h
  · omega
  split at h
  · omega
  split at h
  · exact ⟨by omega, by omega, by omega, by assumption⟩
  · omega
theorem edge_in {p : Gr} (h : edgesB p.1 p.2 = true) {x : Int} (h0 : 0 ≤ x) (h1 : x < p.2.length) : (0 ≤ (eAt p.2 x).1 ∧ (eAt p.2 x).1 < p.1) ∧ 0 ≤ (eAt p.2 x).2 ∧ (eAt p.2 x).2 < p.1 := by
  have hx : x.toNat < p.2.length := by omega
  have := List.all_eq_true.1 h _ (List.getElem_mem hx)
  simp only [insideB, Bool.and_eq_true, decide_eq_true_eq] at this
  have e : eAt p.2 x = p.2[x.toNat] := by simp [eAt, hx]
  rw [e]; exact this
theorem span_same {p : Gr} {l : List Int} (hr : rightG p = 0) (hm : ∀ x ∈ l, 0 ≤ x ∧ x < (p.2.length : Int)) : Lib.compact (isort (endsOf p.2 l)) = (upN p.1.toNat).filter (touchB p.2 l) := by
  obtain ⟨h0, h1, h2, h3⟩ := rightG_zero hr
  obtain ⟨k1, k2⟩ := sorted_spec (endsOf p.2 l)
  refine rise_unique _ _ k1 ((upN_rise _).filter _) fun x => ?_
  rw [k2, List.mem_filter, upN_mem]
  simp only [endsOf, List.mem_flatMap, List.mem_cons, List.not_mem_nil, or_false, touchB, List.any_eq_true, Bool.or_eq_true, decide_eq_true_eq]
  constructor
  · rintro ⟨y, hy, h⟩
    have := edge_in h3 (hm y hy).1 (hm y hy).2
    rcases h with rfl | rfl
    · exact ⟨by omega, y, hy, .inl rfl⟩
    · exact ⟨by omega, y, hy, .inr rfl⟩
  · rintro ⟨-, y, hy, h⟩
    exact ⟨y, hy, h.imp Eq.symm Eq.symm⟩

/-! ### the law -/
theorem awake_at (j : Nat) : tracerylaw04_awake.g (j + 8) = some true := by kernel_rfl
theorem awake_ev : EvS (fun k => tracerylaw04_awake.g k) (some true) := ⟨8, fun k hk => by
  have := awake_at (k - 8)
  rwa [show k - 8 + 8 = k by omega] at this⟩
def smallB (p : Gr) (q : Pt) : Bool := decide ((p.2.length : Int) ≤ 60) && decide ((q.1.length : Int) ≤ 60) && decide ((q.2.length : Int) ≤ 60) && (decide (p.1 ≤ 60) || decide (p.1 > 1024))
theorem small_ev (k : Nat) (p : Gr) (q : Pt) : tracerylaw04_Small.g k p q = some (if smallB p q then 1 else 0) := by
  unfold tracerylaw04_Small.g smallB
  by_cases h0 : (p.2.length : Int) > 60
  · simp [h0, show ¬ (p.2.length : Int) ≤ 60 by omega]
  by_cases h1 : (q.1.length : Int) > 60
  · simp [h0, h1, show ¬ (q.1.length : Int) ≤ 60 by omega]
  by_cases h2 : (q.2.length : Int) > 60
  · simp [h0, h1, h2, show ¬ (q.2.length : Int) ≤ 60 by omega]
  by_cases h3 : p.1 > 60
  · by_cases h4 : p.1 ≤ 1024
    · simp [h0, h1, h2, h3, h4, show ¬ p.1 ≤ 60 by omega, show ¬ 1024 < p.1 by omega]
    · simp [h0, h1, h2, h3, h4, show (p.2.length : Int) ≤ 60 by omega, show (q.1.length : Int) ≤ 60 by omega, show (q.2.length : Int) ≤ 60 by omega, show 1024 < p.1 by omega]
  · simp [h0, h1, h2, h3, show (p.2.length : Int) ≤ 60 by omega, show (q.1.length : Int) ≤ 60 by omega, show (q.2.length : Int) ≤ 60 by omega, show p.1 ≤ 60 by omega]
theorem spans_ev (p : Gr) (l : List Int) : EvS (fun k => tracerylaw04_GraphSpans.g k p l) (some true) := by
  unfold tracerylaw04_GraphSpans.g
  refine EvS.bind awake_ev ?_
  simp only [Bool.not_true, cond_false, small_ev, Option.bind_some]
  by_cases hs : smallB p ([], l) = true
  · simp only [hs, if_true, show ¬ (1 : Int) = 0 by decide, decide_false, cond_false]
    have hs' := hs
    simp only [smallB, Bool.and_eq_true, decide_eq_true_eq] at hs'
    have hl : l.length ≤ 60 := by omega
    refine EvS.bind (span_ev p l (by omega)) ?_
    refine EvS.bind (right_ref p) ?_
    by_cases h0 : rightG p = 0
    · obtain ⟨b0, b1, b2, b3⟩ := rightG_zero h0
      simp only [h0, decide_true, Bool.not_true, cond_false]
      refine EvS.bind (rises_ref l p.2.length (by omega)) ?_
      by_cases h1 : risesB l p.2.length = true
      · have hm := (risesB_spec h1).1
        simp only [h1, Bool.not_true, cond_false, spanG, h0, ne_eq, not_true_eq_false, if_false, if_true, decide_true, cond_true]
        refine EvS.bind (span_ref p l (by omega) b0 (by omega) hm) ?_
        rw [span_same h0 hm]
        have hlen : ((upN p.1.toNat).filter (touchB p.2 l)).length ≤ 1024 := Nat.le_trans (List.length_filter_le ..) (by simp [upN]; omega)
        refine EvS.bind (same_ref ((upN p.1.toNat).filter (touchB p.2 l), l) ((upN p.1.toNat).filter (touchB p.2 l), l) (by simp only; omega) (by simp only; omega)) ?_
        simp only [decide_true]; exact EvS.const _
      · simp only [h1, Bool.not_false, cond_true, spanG, h0, ne_eq, not_true_eq_false, if_false, decide_true]
        refine EvS.bind (same_ev ([], []) ([], []) (by simp) (by simp)) ?_
        simp only [decide_true]; exact EvS.const _
    · simp only [h0, decide_false, Bool.not_false, cond_true, spanG, ne_eq, not_false_eq_true, if_true]
      refine EvS.bind (right_ref p) ?_
      simp only [decide_true, cond_true]
      refine EvS.bind (same_ev ([], []) ([], []) (by simp) (by simp)) ?_
      simp only [decide_true]; exact EvS.const _
  · simp only [hs, if_false, decide_true, cond_true]
    simp
    exact awake_ev
theorem tracerylaw04_GraphSpans.holds (p : Gr) (l : List Int) (w0 : Wf (.st (.pair (.int .i64) (.sl (.st (.pair (.int .i64) (.int .i64)))))) p) (w1 : Wf (.sl (.int .i64)) l) : ∃ k, tracerylaw04_GraphSpans.f k (p, l, ()) = some true := (spans_ev p l).some
end Go.Proofs.Ytbgefphoochgcaa.FX
