/- Chapter 4 over FE's functions: parts, darts, all of a graph. -/
import Derived.Test.YtbgefphoochgcaaXG2
namespace Go.Proofs.Ytbgefphoochgcaa.FX
open Go Go.Proofs.Ytbgefphoochgcaa.FE
set_option linter.unusedVariables false
set_option linter.unusedSimpArgs false
theorem less_eq (k : Nat) (a b : Int) : cmp_Less.g k a b = some (decide (a < b)) := by
  by_cases h : a < b <;> simp [cmp_Less.g, cmp_isNaN.g, h]
theorem mid_eq {lo hi : Nat} (h : lo ≤ hi) (hh : hi ≤ 4611686018427387903) : IntKind.i64.wrap (Int.fdiv (IntKind.u64.wrap (IntKind.i64.wrap ((lo : Int) + (hi : Int)))) 2) = (((lo + hi) / 2 : Nat) : Int) := by
  have h2 : IntKind.i64.wrap ((lo : Int) + hi) = (lo : Int) + hi := w64 (by omega)
  have h1 : IntKind.u64.wrap ((lo : Int) + hi) = (lo : Int) + hi := IntWalk.u64_in _ (by omega)
  rw [h2, h1, Int.fdiv_eq_ediv_of_nonneg _ (by omega), w64 (by omega)]
  omega
theorem has_ev (l : List Int) (hl : l.length ≤ 1000000) (hs : l.Pairwise (· < ·)) (x : Int) : EvS (fun k => graph_Has.g k l x) (some (decide (x ∈ l))) := by
  unfold graph_Has.g slices_BinarySearch.g
  have hp := List.pairwise_iff_getElem.1 hs
  obtain ⟨r, hq, hr⟩ := loop_inv (step := fun k self z => slices_BinarySearch.l3 k l x self z.1 z.2)
    (fun a => ∃ lo hi : Nat, a = ((lo : Int), (hi : Int)) ∧ lo ≤ hi ∧ hi ≤ l.length ∧ (∀ (j : Nat) (h : j < l.length), j < lo → l[j] < x) ∧ ∀ (j : Nat) (h : j < l.length), hi ≤ j → x ≤ l[j]) (fun a => a.2.toNat - a.1.toNat)
    (fun r => ∃ lo : Nat, r = .out ((lo : Int), (lo : Int)) ∧ lo ≤ l.length ∧ (∀ (j : Nat) (h : j < l.length), j < lo → l[j] < x) ∧ ∀ (j : Nat) (h : j < l.length), lo ≤ j → x ≤ l[j])
    (by
      rintro _ ⟨lo, hi, rfl, h1, h2, h3, h4⟩
      rcases Nat.lt_or_ge lo hi with h | h
      · have hm := mid_eq h1 (by omega)
        obtain ⟨mid, hmid⟩ : ∃ mid, mid = (lo + hi) / 2 := ⟨_, rfl⟩
        rw [← hmid] at hm
        have hml : mid < l.length := by omega
        by_cases hx : l[mid] < x
        · refine .inr ⟨(((mid + 1 : Nat) : Int), (hi : Int)), ⟨mid + 1, hi, rfl, by omega, h2, fun j hj hjl => ?_, h4⟩, by simp only [Int.toNat_natCast]; omega, EvS.of fun k => funext fun self => by
            simp [slices_BinarySearch.l3, h, hm, idx_nat, hml, less_eq, hx, nat_wrap hml (by omega)]⟩
          rcases Nat.lt_or_ge j mid with h5 | h5
          · have := hp j mid hj hml h5; omega
          · obtain rfl : j = mid := by omega
            exact hx
        · refine .inr ⟨((lo : Int), (mid : Int)), ⟨lo, mid, rfl, by omega, by omega, h3, fun j hj hjl => ?_⟩, by simp only [Int.toNat_natCast]; omega, EvS.of fun k => funext fun self => by
            simp [slices_BinarySearch.l3, h, hm, idx_nat, hml, less_eq, hx]⟩
          rcases Nat.lt_or_ge mid j with h5 | h5
          · have := hp mid j hml hj h5; omega
          · obtain rfl : j = mid := by omega
            omega
      · obtain rfl : lo = hi := by omega
        exact .inl ⟨.out ((lo : Int), (lo : Int)), ⟨lo, rfl, h2, h3, h4⟩, EvS.of fun k => funext fun self => by simp [slices_BinarySearch.l3]⟩)
    (0, (l.length : Int)) ⟨0, l.length, rfl, Nat.zero_le _, Nat.le_refl _, fun j _ h => absurd h (by omega), fun j h h' => absurd h' (by omega)⟩
  obtain ⟨lo, rfl, h2, h3, h4⟩ := hq
  refine EvS.bind (y := ((lo : Int), decide (x ∈ l))) (EvS.bind hr ?_) (EvS.const _)
  by_cases hn : lo < l.length
  · by_cases hx : l[lo] = x
    · have hm : x ∈ l := hx ▸ List.getElem_mem hn
      exact EvS.of fun k => by simp [LO.elim, hn, idx_nat, hx, hm]
    · have hm : x ∉ l := fun hm => by
        obtain ⟨j, hj, e⟩ := List.getElem_of_mem hm
        rcases Nat.lt_or_ge j lo with h5 | h5
        · have := h3 j hj h5; omega
        · have h6 := h4 lo hn (Nat.le_refl _)
          rcases Nat.lt_or_ge lo j with h7 | h7
          · have := hp lo j hn hj h7; omega
          · obtain rfl : j = lo := by omega
            exact hx e
      exact EvS.of fun k => by simp [LO.elim, hn, idx_nat, hx, hm, slices_isNaN.g]
  · have hm : x ∉ l := fun hm => by
      obtain ⟨j, hj, e⟩ := List.getElem_of_mem hm
      have := h3 j hj (by omega); omega
    exact EvS.of fun k => by simp [LO.elim, hm, show ¬ lo < l.length from hn]
theorem in_ref (l : List Int) (hl : l.length ≤ 9223372036854775807) (x : Int) : EvS (fun k => traceryref04_In.g k l x) (some (decide (x ∈ l))) := by
  unfold traceryref04_In.g
  obtain ⟨r, hq, hr⟩ := count_inv0 (step := fun k self z => traceryref04_In.l2 l x self z) l.length (fun i => x ∉ l.take i) (fun r => match r with | .out _ => x ∉ l | .ret b => b = true ∧ x ∈ l | .ex _ => False)
    (fun hJ => ⟨.out (l.length : Int), by simpa using hJ, EvS.of fun k => funext fun self => by simp [traceryref04_In.l2]⟩)
    (fun i hi hJ => by
      by_cases h : l[i] = x
      · exact .inl ⟨.ret true, ⟨rfl, h ▸ List.getElem_mem hi⟩, EvS.of fun k => funext fun self => by simp [traceryref04_In.l2, hi, idx_nat, h]⟩
      · exact .inr ⟨by rw [List.take_succ_eq_append_getElem hi, List.mem_append, List.mem_singleton]; exact fun h1 => h1.elim hJ (fun h1 => h h1.symm), EvS.of fun k => funext fun self => by simp [traceryref04_In.l2, hi, idx_nat, h, nat_wrap hi hl]⟩)
    (by simp)
  refine EvS.bind hr ?_
  cases r with
  | out z => simp only [hq, decide_false]; exact EvS.const _
  | ret b => obtain ⟨rfl, h⟩ := hq; simp only [h, decide_true]; exact EvS.const _
  | ex _ => exact hq.elim

/-! ### parts -/
def insB (E : List (Int × Int)) (vs : List Int) (l : List Int) : Bool := l.all fun x => decide ((eAt E x).1 ∈ vs) && decide ((eAt E x).2 ∈ vs)
def rightP (p : Gr) (q : Pt) : Int := if rightG p ≠ 0 then rightG p else if risesB q.1 p.1 then if risesB q.2 p.2.length then if insB p.2 q.1 q.2 then 0 else 4 else 4 else 4
theorem ins_cons {E : List (Int × Int)} {vs l : List Int} {i : Nat} (h : i < l.length) : insB E vs (l.drop i) = ((decide ((eAt E l[i]).1 ∈ vs) && decide ((eAt E l[i]).2 ∈ vs)) && insB E vs (l.drop (i + 1))) := by
  rw [List.drop_eq_getElem_cons h]; rfl
theorem part_ev (p : Gr) (q : Pt) (h0 : q.1.length ≤ 1000000) (h1 : q.2.length ≤ 1000000) : EvS (fun k => graph_RightPart.g k p q) (some (rightP p q)) := by
  unfold graph_RightPart.g rightP
  refine EvS.bind (right_ev p) ?_
  by_cases hr : rightG p = 0
  · simp only [hr, decide_true, Bool.not_true, cond_false, ne_eq, not_true_eq_false, if_false]
    refine EvS.bind (rises_ev q.1 p.1 (by omega)) ?_
    by_cases h2 : risesB q.1 p.1 = true
    · simp only [h2, Bool.not_true, cond_false, if_true]
      refine EvS.bind (rises_ev q.2 p.2.length (by omega)) ?_
      by_cases h3 : risesB q.2 p.2.length = true
      · simp only [h3, Bool.not_true, cond_false, if_true]
        have hb := (risesB_spec h3).1
        have hs := (risesB_spec h2).2
        refine EvS.bind (count_ev0 q.2.length (fun i => some (if insB p.2 q.1 (q.2.drop i) then .out (q.2.length : Int) else .ret 4)) ?_ fun i hi => ?_) ?_
        · exact EvS.of fun k => funext fun self => by simp [graph_RightPart.l7, insB]
        · have hx := hb q.2[i] (List.getElem_mem hi)
          simp only [ins_cons hi]
          obtain ⟨K, hK⟩ := (has_ev q.1 h0 hs (eAt p.2 q.2[i]).1).both (has_ev q.1 h0 hs (eAt p.2 q.2[i]).2)
          by_cases h4 : (eAt p.2 q.2[i]).1 ∈ q.1
          · by_cases h5 : (eAt p.2 q.2[i]).2 ∈ q.1
            · exact .inr ⟨by simp [h4, h5], K, fun k hk => funext fun self => by simp [graph_RightPart.l7, hi, idx_nat, eAt_idx hx.1 hx.2, (hK k hk).1, (hK k hk).2, h4, h5, nat_wrap hi (by omega)]⟩
            · exact .inl ⟨K, fun k hk => funext fun self => by simp [graph_RightPart.l7, hi, idx_nat, eAt_idx hx.1 hx.2, (hK k hk).1, (hK k hk).2, h4, h5]⟩
          · exact .inl ⟨K, fun k hk => funext fun self => by simp [graph_RightPart.l7, hi, idx_nat, eAt_idx hx.1 hx.2, (hK k hk).1, h4]⟩
        · by_cases h : insB p.2 q.1 q.2 = true <;> simp [h, LO.elim] <;> exact EvS.const _
      · simp only [h3, Bool.not_false, cond_true, if_false]; exact EvS.const _
    · simp only [h2, Bool.not_false, cond_true, if_false]; exact EvS.const _
  · simp only [hr, decide_false, Bool.not_false, cond_true, ne_eq, not_false_eq_true, if_true]; exact EvS.const _
theorem part_ref (p : Gr) (q : Pt) (h0 : q.1.length ≤ 1000000) (h1 : q.2.length ≤ 1000000) : EvS (fun k => traceryref04_RightPart.g k p q) (some (rightP p q)) := by
  unfold traceryref04_RightPart.g rightP
  refine EvS.bind (right_ref p) ?_
  by_cases hr : rightG p = 0
  · simp only [hr, decide_true, Bool.not_true, cond_false, ne_eq, not_true_eq_false, if_false]
    refine EvS.bind (rises_ref q.1 p.1 (by omega)) ?_
    by_cases h2 : risesB q.1 p.1 = true
    · simp only [h2, Bool.not_true, cond_false, if_true]
      refine EvS.bind (rises_ref q.2 p.2.length (by omega)) ?_
      by_cases h3 : risesB q.2 p.2.length = true
      · simp only [h3, Bool.not_true, cond_false, if_true]
        have hb := (risesB_spec h3).1
        refine EvS.bind (count_ev0 q.2.length (fun i => some (if insB p.2 q.1 (q.2.drop i) then .out (q.2.length : Int) else .ret 4)) ?_ fun i hi => ?_) ?_
        · exact EvS.of fun k => funext fun self => by simp [traceryref04_RightPart.l7, insB]
        · have hx := hb q.2[i] (List.getElem_mem hi)
          simp only [ins_cons hi]
          obtain ⟨K, hK⟩ := (in_ref q.1 (by omega) (eAt p.2 q.2[i]).1).both (in_ref q.1 (by omega) (eAt p.2 q.2[i]).2)
          by_cases h4 : (eAt p.2 q.2[i]).1 ∈ q.1
          · by_cases h5 : (eAt p.2 q.2[i]).2 ∈ q.1
            · exact .inr ⟨by simp [h4, h5], K, fun k hk => funext fun self => by simp [traceryref04_RightPart.l7, hi, idx_nat, eAt_idx hx.1 hx.2, (hK k hk).1, (hK k hk).2, h4, h5, nat_wrap hi (by omega)]⟩
            · exact .inl ⟨K, fun k hk => funext fun self => by simp [traceryref04_RightPart.l7, hi, idx_nat, eAt_idx hx.1 hx.2, (hK k hk).1, (hK k hk).2, h4, h5]⟩
          · exact .inl ⟨K, fun k hk => funext fun self => by simp [traceryref04_RightPart.l7, hi, idx_nat, eAt_idx hx.1 hx.2, (hK k hk).1, h4]⟩
        · by_cases h : insB p.2 q.1 q.2 = true <;> simp [h, LO.elim] <;> exact EvS.const _
      · simp only [h3, Bool.not_false, cond_true, if_false]; exact EvS.const _
    · simp only [h2, Bool.not_false, cond_true, if_false]; exact EvS.const _
  · simp only [hr, decide_false, Bool.not_false, cond_true, ne_eq, not_false_eq_true, if_true]; exact EvS.const _
theorem rightP_zero {p : Gr} {q : Pt} (h : rightP p q = 0) : rightG p = 0 ∧ risesB q.1 p.1 = true ∧ risesB q.2 p.2.length = true ∧ insB p.2 q.1 q.2 = true := by
  unfold rightP at h
  split at h
  · contradiction
  split at h
  · split at h
    · split at h
      · refine ⟨by simp_all, by assumption, by assumption, by assumption⟩
      · omega
    · omega
  · omega

/-! ### darts -/
def dartsOf (E : List (Int × Int)) (v : Int) (l : List Int) : List Int := l.flatMap fun x => (if (eAt E x).1 = v then [2 * x] else []) ++ (if (eAt E x).2 = v then [2 * x + 1] else [])
theorem dartsOf_len (E : List (Int × Int)) (v : Int) (l : List Int) : (dartsOf E v l).length ≤ 2 * l.length := by
  induction l with
  | nil => exact Nat.le_refl _
  | cons x l ih =>
    simp only [dartsOf, List.flatMap_cons, List.length_append] at ih ⊢
    have h1 : (if (eAt E x).1 = v then [2 * x] else []).length ≤ 1 := by split <;> simp
    have h2 : (if (eAt E x).2 = v then [2 * x + 1] else []).length ≤ 1 := by split <;> simp
    simp only [List.length_cons]; omega
theorem dartsOf_take {E : List (Int × Int)} {v : Int} {l : List Int} {i : Nat} (hi : i < l.length) : dartsOf E v (l.take (i + 1)) = (dartsOf E v (l.take i) ++ (if (eAt E l[i]).1 = v then [2 * l[i]] else [])) ++ (if (eAt E l[i]).2 = v then [2 * l[i] + 1] else []) := by
  unfold dartsOf
  rw [List.take_succ_eq_append_getElem hi, List.flatMap_append, List.flatMap_cons, List.flatMap_nil, List.append_nil, List.append_assoc]
def dartsG (p : Gr) (q : Pt) (v : Int) : List Int := if rightP p q = 0 then dartsOf p.2 v q.2 else []
theorem darts_ev (p : Gr) (q : Pt) (v : Int) (h0 : q.1.length ≤ 1000000) (h1 : q.2.length ≤ 1000000) : EvS (fun k => graph_Darts.g k p q v) (some (dartsG p q v)) := by
  unfold graph_Darts.g dartsG
  refine EvS.bind (part_ev p q h0 h1) ?_
  by_cases hr : rightP p q = 0
  · simp only [hr, decide_true, Bool.not_true, cond_false, if_true]
    obtain ⟨g0, g1, g2, g3⟩ := rightP_zero hr
    obtain ⟨b0, b1, b2, b3⟩ := rightG_zero g0
    have hb := (risesB_spec g2).1
    obtain ⟨r, hq, hr⟩ := count_inv (step := fun k self z => graph_Darts.l5 p q v self z.1 z.2) q.2.length (fun i b => b = dartsOf p.2 v (q.2.take i)) (fun r => ∃ i, r = .out (i, dartsOf p.2 v q.2))
      (fun s hJ => ⟨.out ((q.2.length : Int), s), ⟨(q.2.length : Int), by rw [hJ, List.take_length]⟩, EvS.of fun k => funext fun self => by simp [graph_Darts.l5]⟩)
      (fun i b hi hJ => by
        have hx := hb q.2[i] (List.getElem_mem hi)
        have hbl : b.length ≤ 2 * i := by rw [hJ]; exact Nat.le_trans (dartsOf_len ..) (by rw [List.length_take]; omega)
        have l1 : limB (b.length + 1) = true := lim_true (by unfold LIM; omega)
        have l2 : limB (b.length + 1 + 1) = true := lim_true (by unfold LIM; omega)
        have w1 : IntKind.i64.wrap (2 * q.2[i]) = 2 * q.2[i] := w64 (by omega)
        have w2 : IntKind.i64.wrap (2 * q.2[i] + 1) = 2 * q.2[i] + 1 := w64 (by omega)
        refine .inr ⟨(b ++ (if (eAt p.2 q.2[i]).1 = v then [2 * q.2[i]] else [])) ++ (if (eAt p.2 q.2[i]).2 = v then [2 * q.2[i] + 1] else []), by rw [dartsOf_take hi, hJ], EvS.of fun k => funext fun self => ?_⟩
        by_cases e1 : (eAt p.2 q.2[i]).1 = v <;> by_cases e2 : (eAt p.2 q.2[i]).2 = v <;>
          simp [graph_Darts.l5, graph_Darts.j9, hi, idx_nat, eAt_idx hx.1 hx.2, e1, e2, l1, l2, w1, w2, LO.elim, nat_wrap hi (by omega)])
      [] rfl
    refine EvS.bind hr ?_
    obtain ⟨i, rfl⟩ := hq
    exact EvS.const _
  · simp only [hr, decide_false, Bool.not_false, cond_true, if_false]; exact EvS.const _
end Go.Proofs.Ytbgefphoochgcaa.FX
