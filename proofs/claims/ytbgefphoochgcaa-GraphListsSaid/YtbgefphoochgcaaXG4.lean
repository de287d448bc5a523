/- Chapter 4 over FE's functions: ends, the whole, the law GraphRights. -/
import Derived.Test.YtbgefphoochgcaaXG3
namespace Go.Proofs.Ytbgefphoochgcaa.FX
open Go Go.Proofs.Ytbgefphoochgcaa.FE
set_option linter.unusedVariables false
set_option linter.unusedSimpArgs false
theorem up_ev (n : Int) (h0 : 0 ≤ n) (hn : n ≤ 1000000) : EvS (fun k => graph_upTo.g k n) (some (upN n.toNat)) := by
  unfold graph_upTo.g
  obtain ⟨r, hq, hr⟩ := count_inv (step := fun k self z => graph_upTo.l3 n self z.1 z.2) n.toNat (fun i b => b = upN i) (fun r => ∃ i, r = .out (i, upN n.toNat))
    (fun s hJ => ⟨.out (((n.toNat : Nat) : Int), s), ⟨((n.toNat : Nat) : Int), by rw [hJ]⟩, EvS.of fun k => funext fun self => by simp [graph_upTo.l3, show max n 0 = n by omega]⟩)
    (fun i b hi hJ => by
      have hbl : b.length = i := by rw [hJ]; simp [upN]
      exact .inr ⟨b ++ [(i : Int)], by rw [upN_succ, hJ], EvS.of fun k => funext fun self => by
        simp [graph_upTo.l3, show (i : Int) < n by omega, lim_true (show b.length + 1 ≤ LIM by unfold LIM; omega), nat_wrap hi (by omega)]⟩)
    [] rfl
  refine EvS.bind hr ?_
  obtain ⟨i, rfl⟩ := hq
  exact EvS.const _
def wholeG (p : Gr) : Pt := if rightG p = 0 then (upN p.1.toNat, upN p.2.length) else ([], [])
theorem whole_ev (p : Gr) : EvS (fun k => graph_Whole.g k p) (some (wholeG p)) := by
  unfold graph_Whole.g wholeG
  refine EvS.bind (right_ev p) ?_
  by_cases hr : rightG p = 0
  · obtain ⟨b0, b1, b2, b3⟩ := rightG_zero hr
    simp only [hr, decide_true, Bool.not_true, cond_false, if_true]
    refine EvS.bind (up_ev p.1 b0 (by omega)) ?_
    refine EvS.bind (up_ev p.2.length (by omega) (by omega)) ?_
    exact EvS.const _
  · simp only [hr, decide_false, Bool.not_false, cond_true, if_false]; exact EvS.const _
theorem whole_ref (p : Gr) (hr : rightG p = 0) : EvS (fun k => traceryref04_Whole.g k p) (some (upN p.1.toNat, upN p.2.length)) := by
  obtain ⟨b0, b1, b2, b3⟩ := rightG_zero hr
  unfold traceryref04_Whole.g
  obtain ⟨r, hq, hr⟩ := count_inv (step := fun k self z => traceryref04_Whole.l3 p self z.1 z.2) p.1.toNat (fun i b => b = upN i) (fun r => ∃ i, r = .out (i, upN p.1.toNat))
    (fun s hJ => ⟨.out (((p.1.toNat : Nat) : Int), s), ⟨((p.1.toNat : Nat) : Int), by rw [hJ]⟩, EvS.of fun k => funext fun self => by simp [traceryref04_Whole.l3, show max p.1 0 = p.1 by omega]⟩)
    (fun i b hi hJ => by
      have hbl : b.length = i := by rw [hJ]; simp [upN]
      exact .inr ⟨b ++ [(i : Int)], by rw [upN_succ, hJ], EvS.of fun k => funext fun self => by
        simp [traceryref04_Whole.l3, show (i : Int) < p.1 by omega, lim_true (show b.length + 1 ≤ LIM by unfold LIM; omega), nat_wrap hi (by omega)]⟩)
    [] rfl
  refine EvS.bind hr ?_
  obtain ⟨i, rfl⟩ := hq
  obtain ⟨r, hq, hr⟩ := count_inv (step := fun k self z => traceryref04_Whole.l7 p self z.1 z.2) p.2.length (fun i b => b = upN i) (fun r => ∃ i, r = .out (i, upN p.2.length))
    (fun s hJ => ⟨.out ((p.2.length : Int), s), ⟨(p.2.length : Int), by rw [hJ]⟩, EvS.of fun k => funext fun self => by simp [traceryref04_Whole.l7]⟩)
    (fun i b hi hJ => by
      have hbl : b.length = i := by rw [hJ]; simp [upN]
      exact .inr ⟨b ++ [(i : Int)], by rw [upN_succ, hJ], EvS.of fun k => funext fun self => by
        simp [traceryref04_Whole.l7, hi, lim_true (show b.length + 1 ≤ LIM by unfold LIM; omega), nat_wrap hi (by omega)]⟩)
    [] rfl
  refine EvS.bind hr ?_
  obtain ⟨i, rfl⟩ := hq
  exact EvS.const _

/-! ### ends -/
def fits64 (d : Int) : Prop := -9223372036854775808 ≤ d ∧ d ≤ 9223372036854775807
theorem half_eq {d : Int} (h : 0 ≤ d) (hd : fits64 d) : IntKind.i64.wrap (Int.tdiv d 2) = d / 2 := by
  rw [Int.tdiv_eq_ediv_of_nonneg h]
  unfold fits64 at hd
  exact w64 (by omega)
theorem mod_eq {d : Int} (h : 0 ≤ d) : Int.tmod d 2 = d % 2 := Int.tmod_eq_emod_of_nonneg h
def endsD (p : Gr) (d : Int) : Int × (Int × Bool) := if rightG p = 0 ∧ 0 ≤ d ∧ d / 2 < p.2.length then (if d % 2 = 1 then ((eAt p.2 (d / 2)).2, (eAt p.2 (d / 2)).1, true) else ((eAt p.2 (d / 2)).1, (eAt p.2 (d / 2)).2, true)) else (0, 0, false)
theorem ends_ev (p : Gr) (d : Int) (hd : fits64 d) : EvS (fun k => graph_Ends.g k p d) (some (endsD p d)) := by
  unfold graph_Ends.g endsD
  refine EvS.bind (right_ev p) ?_
  by_cases hr : rightG p = 0
  · by_cases h0 : d < 0
    · simp only [hr, h0, decide_true, Bool.not_true, cond_false, cond_true, show ¬ 0 ≤ d by omega, false_and, and_false, if_false]; exact EvS.const _
    · have h0' : 0 ≤ d := by omega
      rw [half_eq h0' hd, mod_eq h0']
      by_cases h1 : d / 2 ≥ (p.2.length : Int)
      · simp only [hr, h0, h1, decide_true, decide_false, Bool.not_true, cond_false, cond_true, show ¬ d / 2 < (p.2.length : Int) by omega, and_false, if_false]; exact EvS.const _
      · have h1' : d / 2 < (p.2.length : Int) := by omega
        simp only [hr, h0, h1, decide_true, decide_false, Bool.not_true, cond_false, h0', h1', and_true, if_true, eAt_idx (show 0 ≤ d / 2 by omega) h1', Option.bind_some]
        by_cases h2 : d % 2 = 1 <;> simp [h2] <;> exact EvS.const _
  · simp only [hr, decide_false, Bool.not_false, cond_true, false_and, if_false]; exact EvS.const _
theorem tail_eq (k : Nat) (p : Gr) (d : Int) (h0 : 0 ≤ d) (hd : fits64 d) (h1 : d / 2 < (p.2.length : Int)) : traceryref04_Tail.g k p d = some (if d % 2 = 0 then (eAt p.2 (d / 2)).1 else (eAt p.2 (d / 2)).2) := by
  unfold traceryref04_Tail.g
  rw [half_eq h0 hd, mod_eq h0, eAt_idx (show 0 ≤ d / 2 by omega) h1]
  by_cases h : d % 2 = 0 <;> simp [h]
theorem head_eq (k : Nat) (p : Gr) (d : Int) (h0 : 0 ≤ d) (hd : fits64 d) (h1 : d / 2 < (p.2.length : Int)) (hl : p.2.length ≤ 1000000) : traceryref04_Head.g k p d = some (if d % 2 = 0 then (eAt p.2 (d / 2)).2 else (eAt p.2 (d / 2)).1) := by
  unfold traceryref04_Head.g traceryref04_Twin.g
  unfold fits64 at hd
  rw [mod_eq h0, w64 (show _ ∧ d + 1 ≤ 9223372036854775807 from ⟨by omega, by omega⟩), w64 (show _ ∧ d - 1 ≤ 9223372036854775807 from ⟨by omega, by omega⟩)]
  by_cases h : d % 2 = 0
  · simp only [h, decide_true, cond_true, Option.bind_some, if_true]
    rw [tail_eq k p (d + 1) (by omega) (by unfold fits64; omega) (by omega)]
    simp [show (d + 1) / 2 = d / 2 by omega, show ¬ (d + 1) % 2 = 0 by omega]
  · simp only [h, decide_false, cond_false, Option.bind_some, if_false]
    rw [tail_eq k p (d - 1) (by omega) (by unfold fits64; omega) (by omega)]
    simp [show (d - 1) / 2 = d / 2 by omega, show (d - 1) % 2 = 0 by omega]
theorem darts_ref (p : Gr) (q : Pt) (v : Int) (h1 : q.2.length ≤ 1000000) (hl : p.2.length ≤ 1000000) (hm : ∀ x ∈ q.2, 0 ≤ x ∧ x < (p.2.length : Int)) : EvS (fun k => traceryref04_Darts.g k p q v) (some (dartsOf p.2 v q.2)) := by
  unfold traceryref04_Darts.g
  obtain ⟨r, hq, hr⟩ := count_inv (step := fun k self z => traceryref04_Darts.l3 k p q v self z.1 z.2) q.2.length (fun i b => b = dartsOf p.2 v (q.2.take i)) (fun r => ∃ i, r = .out (i, dartsOf p.2 v q.2))
    (fun s hJ => ⟨.out ((q.2.length : Int), s), ⟨(q.2.length : Int), by rw [hJ, List.take_length]⟩, EvS.of fun k => funext fun self => by simp [traceryref04_Darts.l3]⟩)
    (fun i b hi hJ => by
      have hx := hm q.2[i] (List.getElem_mem hi)
      have hbl : b.length ≤ 2 * i := by rw [hJ]; exact Nat.le_trans (dartsOf_len ..) (by rw [List.length_take]; omega)
      have w1 : IntKind.i64.wrap (2 * q.2[i]) = 2 * q.2[i] := w64 (by omega)
      have w2 : IntKind.i64.wrap (2 * q.2[i] + 1) = 2 * q.2[i] + 1 := w64 (by omega)
      have w0 : IntKind.i64.wrap (2 * q.2[i] + 0) = 2 * q.2[i] := by rw [Int.add_zero]; exact w1
      have t0 : ∀ k, traceryref04_Tail.g k p (2 * q.2[i]) = some (eAt p.2 q.2[i]).1 := fun k => by
        rw [tail_eq k p _ (by omega) (by unfold fits64; omega) (by omega)]
        simp [show 2 * q.2[i] / 2 = q.2[i] by omega, show 2 * q.2[i] % 2 = 0 by omega]
      have t1 : ∀ k, traceryref04_Tail.g k p (2 * q.2[i] + 1) = some (eAt p.2 q.2[i]).2 := fun k => by
        rw [tail_eq k p _ (by omega) (by unfold fits64; omega) (by omega)]
        simp [show (2 * q.2[i] + 1) / 2 = q.2[i] by omega, show ¬ (2 * q.2[i] + 1) % 2 = 0 by omega]
      obtain ⟨r, ⟨j, hq⟩, K, hr⟩ := count_inv (step := fun k self z => traceryref04_Darts.l6 k p q v (i : Int) self z.1 z.2) 2
        (fun s b' => b' = (b ++ (if 1 ≤ s then (if (eAt p.2 q.2[i]).1 = v then [2 * q.2[i]] else []) else [])) ++ (if 2 ≤ s then (if (eAt p.2 q.2[i]).2 = v then [2 * q.2[i] + 1] else []) else []))
        (fun (r : LO (Int × List Int) Unit (List Int)) => ∃ j, r = .out (j, (b ++ (if (eAt p.2 q.2[i]).1 = v then [2 * q.2[i]] else [])) ++ (if (eAt p.2 q.2[i]).2 = v then [2 * q.2[i] + 1] else [])))
        (fun s hs => ⟨.out ((2 : Int), s), ⟨2, by rw [hs]; simp⟩, EvS.of fun k => funext fun self => by simp [traceryref04_Darts.l6]⟩)
        (fun s b' hs hb' => by
          have l1 : limB (b.length + 1) = true := lim_true (by unfold LIM; omega)
          have l2 : limB (b.length + 1 + 1) = true := lim_true (by unfold LIM; omega)
          have : s = 0 ∨ s = 1 := by omega
          rcases this with rfl | rfl
          · simp at hb'
            subst hb'
            refine .inr ⟨b' ++ (if (eAt p.2 q.2[i]).1 = v then [2 * q.2[i]] else []), by simp, EvS.of fun k => funext fun self => ?_⟩
            by_cases e1 : (eAt p.2 q.2[i]).1 = v <;> simp [traceryref04_Darts.l6, hi, idx_nat, w1, w0, t0, e1, l1, w64]
          · simp at hb'
            subst hb'
            refine .inr ⟨(b ++ (if (eAt p.2 q.2[i]).1 = v then [2 * q.2[i]] else [])) ++ (if (eAt p.2 q.2[i]).2 = v then [2 * q.2[i] + 1] else []), by simp, EvS.of fun k => funext fun self => ?_⟩
            by_cases e1 : (eAt p.2 q.2[i]).1 = v <;> by_cases e2 : (eAt p.2 q.2[i]).2 = v <;> simp [traceryref04_Darts.l6, hi, idx_nat, w1, w2, t1, e1, e2, l1, l2, w64])
        b (by simp)
      refine .inr ⟨(b ++ (if (eAt p.2 q.2[i]).1 = v then [2 * q.2[i]] else [])) ++ (if (eAt p.2 q.2[i]).2 = v then [2 * q.2[i] + 1] else []), by rw [dartsOf_take hi, hJ], K, fun k hk => funext fun self => ?_⟩
      simp only [traceryref04_Darts.l3]
      rw [show iter (fun self z4 => traceryref04_Darts.l6 k p q v (i : Int) self z4.1 z4.2) k (0, b) = some r from hr k hk, hq]
      simp [hi, LO.elim, nat_wrap hi (by omega)])
    [] rfl
  refine EvS.bind hr ?_
  obtain ⟨i, rfl⟩ := hq
  exact EvS.const _

/-! ### the law -/
theorem j11_ev (p : Gr) (hr : rightG p = 0) : EvS (fun k => tracerylaw04_GraphRights.j11 k p) (some (.out ())) := by
  unfold tracerylaw04_GraphRights.j11
  by_cases h : p.1 ≤ 60
  · simp only [h, decide_true, cond_true]
    obtain ⟨b0, b1, b2, b3⟩ := rightG_zero hr
    refine EvS.bind (whole_ev p) (EvS.bind (whole_ref p hr) ?_)
    simp only [wholeG, hr, if_true]
    refine EvS.bind (same_ref (upN p.1.toNat, upN p.2.length) (upN p.1.toNat, upN p.2.length) (by simp [upN]; omega) (by simp [upN]; omega)) ?_
    simp only [decide_true, Bool.not_true, cond_false]; exact EvS.const _
  · simp only [h, decide_false, cond_false]; exact EvS.const _
theorem j13_ev (p : Gr) (d : Int) (hd : fits64 d) (hr : rightG p = 0) : EvS (fun k => tracerylaw04_GraphRights.j13 k p d (endsD p d)) (some (.out ())) := by
  obtain ⟨b0, b1, b2, b3⟩ := rightG_zero hr
  refine EvS.of fun k => ?_
  unfold tracerylaw04_GraphRights.j13
  by_cases h0 : 0 ≤ d
  · rw [half_eq h0 hd]
    by_cases h1 : d / 2 < (p.2.length : Int)
    · rw [tail_eq k p d h0 hd h1, head_eq k p d h0 hd h1 (by omega)]
      by_cases h2 : d % 2 = 1
      · simp [endsD, hr, h0, h1, h2, show ¬ d % 2 = 0 by omega]
      · simp [endsD, hr, h0, h1, h2, show d % 2 = 0 by omega]
    · simp [endsD, hr, h0, h1]
  · simp [endsD, hr, h0]
theorem rights_ev (p : Gr) (q : Pt) (v d : Int) (hd : fits64 d) : EvS (fun k => tracerylaw04_GraphRights.g k p q v d) (some true) := by
  unfold tracerylaw04_GraphRights.g
  refine EvS.bind awake_ev ?_
  simp only [Bool.not_true, cond_false, small_ev, Option.bind_some]
  by_cases hs : smallB p q = true
  · simp only [hs, if_true, show ¬ (1 : Int) = 0 by decide, decide_false, cond_false]
    have hs' := hs
    simp only [smallB, Bool.and_eq_true, decide_eq_true_eq] at hs'
    have hl0 : q.1.length ≤ 60 := by omega
    have hl1 : q.2.length ≤ 60 := by omega
    refine EvS.bind (right_ev p) (EvS.bind (right_ref p) ?_)
    simp only [decide_true, Bool.not_true, cond_false]
    refine EvS.bind (part_ev p q (by omega) (by omega)) (EvS.bind (part_ref p q (by omega) (by omega)) ?_)
    simp only [decide_true, Bool.not_true, cond_false]
    refine EvS.bind (darts_ev p q v (by omega) (by omega)) (EvS.bind (ends_ev p d hd) (EvS.bind (right_ref p) ?_))
    by_cases hr : rightG p = 0
    · simp only [hr, decide_true, Bool.not_true, cond_false]
      refine EvS.bind (j11_ev p hr) ?_
      simp only [LO.elim]
      refine EvS.bind (j13_ev p d hd hr) ?_
      simp only [LO.elim]
      refine EvS.bind (part_ref p q (by omega) (by omega)) ?_
      by_cases hp : rightP p q = 0
      · obtain ⟨g0, g1, g2, g3⟩ := rightP_zero hp
        obtain ⟨b0, b1, b2, b3⟩ := rightG_zero g0
        simp only [hp, decide_true, Bool.not_true, cond_false, dartsG, if_true]
        refine EvS.bind (darts_ref p q v (by omega) (by omega) (risesB_spec g2).1) ?_
        refine EvS.bind (equal_ref _ _ (Nat.le_trans (dartsOf_len ..) (by omega))) ?_
        simp only [decide_true]; exact EvS.const _
      · simp only [hp, decide_false, Bool.not_false, cond_true, dartsG, if_false]; exact EvS.const _
    · have hp : ¬ rightP p q = 0 := fun h => hr (rightP_zero h).1
      simp only [hr, decide_false, Bool.not_false, cond_true, dartsG, hp, if_false, endsD, false_and]
      refine EvS.bind (whole_ev p) ?_
      simp only [wholeG, hr, if_false]
      refine EvS.bind (same_ev ([], []) ([], []) (by simp) (by simp)) ?_
      simp only [decide_true]; exact EvS.const _
  · simp only [hs, if_false, decide_true, cond_true]
    simp
    exact awake_ev
theorem fits_of {d : Int} (h : Wf (.int .i64) d) : fits64 d := by
  have h : (Lit.int .i64 d).wf = true := h
  unfold fits64
  simpa [Lit.wf, IntKind.min, IntKind.max, IntKind.signed, IntKind.bits] using h
theorem tracerylaw04_GraphRights.holds (p : Gr) (q : Pt) (v d : Int) (w0 : Wf (.st (.pair (.int .i64) (.sl (.st (.pair (.int .i64) (.int .i64)))))) p) (w1 : Wf (.st (.pair (.sl (.int .i64)) (.sl (.int .i64)))) q) (w2 : Wf (.int .i64) v) (w3 : Wf (.int .i64) d) : ∃ k, tracerylaw04_GraphRights.f k (p, q, v, d, ()) = some true := (rights_ev p q v d (fits_of w3)).some
end Go.Proofs.Ytbgefphoochgcaa.FX
