/- The law GraphTwins, in lists. -/
import Derived.Test.YtbgefphoochgcaaGraphRef
import Derived.Test.YtbgefphoochgcaaPAx23
namespace Go.Proofs.Ytbgefphoochgcaa.PA
open Go.RowKit Go.Proofs.YtbgefphoochgcaaW.PrintWords Go.Proofs.YtbgefphoochgcaaW.PrintLast

theorem risesFrom_of (lim : Int) : ∀ (l : List Int) (last : Int), (∀ x ∈ l, last < x ∧ x < lim) → l.Pairwise (· < ·) → risesFrom lim last l = true
  | [], _, _, _ => rfl
  | x :: t, last, h, hp => by
    rw [List.pairwise_cons] at hp
    simp only [risesFrom, Bool.and_eq_true, decide_eq_true_eq]
    exact ⟨h x List.mem_cons_self, risesFrom_of lim t x (fun y hy => ⟨hp.1 y hy, (h y (List.mem_cons_of_mem _ hy)).2⟩) hp.2⟩
theorem upList_pairwise (n : Nat) : (upList n).Pairwise (· < ·) := by
  unfold upList
  rw [List.pairwise_map]
  exact List.pairwise_lt_range.imp (by intro a b h; omega)
theorem upList_rises (n : Nat) (lim : Int) (h : (n : Int) ≤ lim) : risesFrom lim (-1) (upList n) = true :=
  risesFrom_of lim _ _ (fun x hx => by have := (upList_mem n x).1 hx; omega) (upList_pairwise n)
theorem rightG_bounds {n : Int} {E : List Ed} (h : rightG n E = 0) : 0 ≤ n ∧ n ≤ 1024 ∧ (E.length : Int) ≤ 1024 - n ∧ edgesB n E = true := by
  unfold rightG at h
  split at h
  · omega
  · split at h
    · omega
    · split at h
      · omega
      · split at h
        · rename_i hb
          exact ⟨by omega, by omega, by omega, hb⟩
        · omega
theorem rdE_at (E : List Ed) (e : Int) (h0 : 0 ≤ e) (h1 : e < E.length) : ∃ (i : Nat) (hi : i < E.length), e = i ∧ rdE E e = E[i] := by
  obtain ⟨i, rfl⟩ := Int.eq_ofNat_of_zero_le h0
  exact ⟨i, by omega, rfl, rdE_nat E i (by omega)⟩
theorem edges_in {n : Int} {E : List Ed} (h : edgesB n E = true) (e : Int) (h0 : 0 ≤ e) (h1 : e < E.length) : (0 ≤ (rdE E e).f0 ∧ (rdE E e).f0 < n) ∧ (0 ≤ (rdE E e).f1 ∧ (rdE E e).f1 < n) := by
  obtain ⟨i, hi, -, ei⟩ := rdE_at E e h0 h1
  rw [ei]
  unfold edgesB at h
  have := List.all_eq_true.1 h E[i] (List.getElem_mem hi)
  simpa [insideB, Bool.and_eq_true, decide_eq_true_eq] using this
theorem whole_right {n : Int} {E : List Ed} (h : rightG n E = 0) : rightP n E (upList n.toNat) (upList E.length) = 0 := by
  obtain ⟨h0, h1, h2, h3⟩ := rightG_bounds h
  unfold rightP
  rw [if_pos h, upList_rises n.toNat n (by omega), upList_rises E.length E.length (by omega), if_pos (by rfl), if_pos]
  unfold endsB
  refine List.all_eq_true.2 fun e he => ?_
  have hm := (upList_mem E.length e).1 he
  have hb := edges_in h3 e hm.1 hm.2
  rw [Bool.and_eq_true, decide_eq_true_eq, decide_eq_true_eq]
  exact ⟨(upList_mem _ _).2 ⟨hb.1.1, by have := hb.1.2; omega⟩, (upList_mem _ _).2 ⟨hb.2.1, by have := hb.2.2; omega⟩⟩
theorem darts_ev (n : Int) (E : List Ed) (V P : List Int) (v : Int) (hP : P.length ≤ 1000000) (hV : V.length ≤ 1000000) : Ev (fun k => graph_Darts.f k n E V P v) (if rightP n E V P = 0 then dartsOf E P v else []) := by
  unfold graph_Darts.f
  refine Ev.bind (part_ev n E V P hP hV) ?_
  by_cases h : rightP n E V P = 0
  · simp only [h, if_true]
    have hG : rightG n E = 0 := by
      unfold rightP at h
      split at h
      · assumption
      · exact h
    have hb := rightG_bounds hG
    have hr : risesFrom E.length (-1) P = true := by
      unfold rightP at h
      rw [if_pos hG] at h
      split at h
      · rename_i hh
        exact (Bool.and_eq_true_iff.1 hh).2
      · omega
    exact darts_l0 n E v P hP (by omega) (fun x hx => by have := (risesFrom_spec _ P _ hr).1 x hx; omega) _ 0 [] rfl (by omega) (by simp)
  · simp only [h, if_false]
    exact Ev.now _
theorem dartsAt_mem (E : List Ed) (v e x : Int) : x ∈ dartsAt E v e ↔ (x = 2 * e ∧ (rdE E e).f0 = v) ∨ (x = 2 * e + 1 ∧ (rdE E e).f1 = v) := by
  unfold dartsAt
  by_cases h0 : (rdE E e).f0 = v <;> by_cases h1 : (rdE E e).f1 = v <;> simp [h0, h1]
theorem dartsOf_pairwise (E : List Ed) (v : Int) : ∀ P : List Int, P.Pairwise (· < ·) → (dartsOf E P v).Pairwise (· < ·)
  | [], _ => List.Pairwise.nil
  | e :: P, h => by
    rw [List.pairwise_cons] at h
    have e1 : dartsOf E (e :: P) v = dartsAt E v e ++ dartsOf E P v := by simp [dartsOf]
    rw [e1, List.pairwise_append]
    refine ⟨?_, dartsOf_pairwise E v P h.2, fun x hx y hy => ?_⟩
    · unfold dartsAt
      by_cases h0 : (rdE E e).f0 = v <;> by_cases h1 : (rdE E e).f1 = v <;> simp [h0, h1]
      omega
    · unfold dartsOf at hy
      obtain ⟨f, hf, hy⟩ := List.mem_flatMap.1 hy
      have := h.1 f hf
      rcases (dartsAt_mem E v e x).1 hx with ⟨rfl, _⟩ | ⟨rfl, _⟩ <;> rcases (dartsAt_mem E v f y).1 hy with ⟨rfl, _⟩ | ⟨rfl, _⟩ <;> omega

theorem twins_awake (d : Int) (n : Int) (E : List Ed) : Ev (fun k => tracerylaw04_GraphTwins.j0 k d true n E) true :=
  Ev.step (f := fun k => (tracerylaw04_awake.f k).bind fun t => some t) (fun k => by simp only [tracerylaw04_GraphTwins.j0]; rw [if_pos trivial]) (Ev.bind tracerylaw04_awake.ev (Ev.now _))
theorem endsD_in {n : Int} {E : List Ed} {d : Int} (h : rightG n E = 0 ∧ 0 ≤ d ∧ d / 2 < E.length) : endsD n E d = if d % 2 = 1 then ((rdE E (d / 2)).f1, (rdE E (d / 2)).f0, true) else ((rdE E (d / 2)).f0, (rdE E (d / 2)).f1, true) := if_pos h
theorem endsD_out {n : Int} {E : List Ed} {d : Int} (h : ¬ (rightG n E = 0 ∧ 0 ≤ d ∧ d / 2 < E.length)) : endsD n E d = (0, 0, false) := if_neg h
theorem dartsOf_mem (E : List Ed) (P : List Int) (v x : Int) : x ∈ dartsOf E P v ↔ ∃ e ∈ P, (x = 2 * e ∧ (rdE E e).f0 = v) ∨ (x = 2 * e + 1 ∧ (rdE E e).f1 = v) := by
  unfold dartsOf
  rw [List.mem_flatMap]
  exact ⟨fun ⟨e, he, hx⟩ => ⟨e, he, (dartsAt_mem E v e x).1 hx⟩, fun ⟨e, he, hx⟩ => ⟨e, he, (dartsAt_mem E v e x).2 hx⟩⟩
theorem twins_j0 (n : Int) (E : List Ed) (d : Int) (hE : E.length ≤ 60) (hd : -9223372036854775808 ≤ d ∧ d ≤ 9223372036854775807) : Ev (fun k => tracerylaw04_GraphTwins.j0 k d false n E) true := by
  apply Ev.step
  · intro k
    simp only [tracerylaw04_GraphTwins.j0]
    rw [if_neg (by simp)]
  refine Ev.bind (ends_ev n E d hd) ?_
  by_cases hc : rightG n E = 0 ∧ 0 ≤ d ∧ d / 2 < E.length
  · have hc' := hc
    obtain ⟨hG, hd0, hd1⟩ := hc'
    have hb := rightG_bounds hG
    have hW := whole_ev n E hG
    -- the dart's own end and its twin's
    obtain ⟨a, b, t, hea, het, htw, hmem, hin⟩ : ∃ a b t, endsD n E d = (a, b, true) ∧ endsD n E t = (b, a, true) ∧ traceryref04_Twin.f d = some t ∧ d ∈ dartsOf E (upList E.length) a ∧ (-9223372036854775808 ≤ t ∧ t ≤ 9223372036854775807) := by
      have em : Int.tmod d 2 = d % 2 := Int.tmod_eq_emod_of_nonneg hd0
      by_cases h2 : d % 2 = 1
      · refine ⟨(rdE E (d / 2)).f1, (rdE E (d / 2)).f0, d - 1, by rw [endsD_in hc, if_pos h2], ?_, ?_, (dartsOf_mem _ _ _ _).2 ⟨d / 2, (upList_mem _ _).2 ⟨by omega, hd1⟩, .inr ⟨by omega, rfl⟩⟩, by omega⟩
        · have e : (d - 1) / 2 = d / 2 := by omega
          rw [endsD_in ⟨hG, by omega, by omega⟩, e, if_neg (by omega)]
        · unfold traceryref04_Twin.f
          rw [em, if_neg (by omega), wrap_id _ (by omega)]
      · refine ⟨(rdE E (d / 2)).f0, (rdE E (d / 2)).f1, d + 1, by rw [endsD_in hc, if_neg h2], ?_, ?_, (dartsOf_mem _ _ _ _).2 ⟨d / 2, (upList_mem _ _).2 ⟨by omega, hd1⟩, .inl ⟨by omega, rfl⟩⟩, by omega⟩
        · have e : (d + 1) / 2 = d / 2 := by omega
          rw [endsD_in ⟨hG, by omega, by omega⟩, e, if_pos (by omega)]
        · unfold traceryref04_Twin.f
          rw [em, if_pos (by omega), wrap_id _ (by omega)]
    rw [hea]
    simp only [if_true, htw, Option.bind_some]
    refine Ev.bind (ends_ev n E t hin) ?_
    rw [het]
    refine Ev.bind hW ?_
    have hD := darts_ev n E (upList n.toNat) (upList E.length) a (by rw [upList_length]; omega) (by rw [upList_length]; omega)
    rw [if_pos (whole_right hG)] at hD
    refine Ev.bind hD ?_
    simp only [if_true]
    have hlen : ∀ P : List Int, (dartsOf E P a).length ≤ 2 * P.length := by
      intro P
      induction P with
      | nil => simp [dartsOf]
      | cons e P ih =>
        have e1 : dartsOf E (e :: P) a = dartsAt E a e ++ dartsOf E P a := by simp [dartsOf]
        rw [e1, List.length_append, List.length_cons]
        have := dartsAt_len E a e
        omega
    have hl := hlen (upList E.length)
    rw [upList_length] at hl
    have hI := in_ev (dartsOf E (upList E.length) a) d (by omega)
    rw [decide_eq_true hmem] at hI
    refine Ev.bind hI ?_
    simp only [if_true]
    rw [wrap_id (2 * (E.length : Int)) (by omega)]
    have hR := ref_rises_l0 (2 * E.length) (dartsOf E (upList E.length) a) (by omega) _ 0 (-1) rfl (by omega) (by omega) (fun _ => rfl) (fun j hj => by omega)
    rw [List.drop_zero, risesFrom_of (2 * E.length) _ (-1) (fun x hx => by
      obtain ⟨e, he, hx⟩ := (dartsOf_mem _ _ _ _).1 hx
      have := (upList_mem _ _).1 he
      rcases hx with ⟨rfl, _⟩ | ⟨rfl, _⟩ <;> omega) (dartsOf_pairwise E a _ (upList_pairwise _))] at hR
    exact Ev.bind hR (Ev.now _)
  · rw [endsD_out hc]
    simp only [Bool.false_eq_true, if_false, if_true]
    refine Ev.bind (right_ev n E) ?_
    by_cases hG : rightG n E = 0
    · simp only [hG, if_true]
      by_cases h0 : d < 0
      · simp only [h0, if_true]
        exact Ev.now _
      · simp only [h0, if_false]
        have e2 : Int.tdiv d 2 = d / 2 := Int.tdiv_eq_ediv_of_nonneg (by omega)
        rw [e2, wrap_id (d / 2) (by omega), decide_eq_true (show d / 2 ≥ (E.length : Int) by
          rcases Int.lt_or_le (d / 2) E.length with h | h
          · exact absurd ⟨hG, by omega, h⟩ hc
          · exact h)]
        exact Ev.now _
    · simp only [hG, if_false]
      exact Ev.now _
theorem twins (n : Int) (E : List Ed) (d : Int) (hd : -9223372036854775808 ≤ d ∧ d ≤ 9223372036854775807) : ∃ k, tracerylaw04_GraphTwins.f k n E d = some true := by
  apply Ev.rounds
  unfold tracerylaw04_GraphTwins.f
  refine Ev.bind tracerylaw04_awake.ev ?_
  simp only [if_true]
  unfold tracerylaw04_Small.f
  by_cases h : (E.length : Int) > 60
  · simp only [h, if_true, Option.bind_some]
    exact twins_awake d n E
  · simp only [h, if_false, List.length_nil]
    rw [if_neg (by omega), if_neg (by omega)]
    by_cases h1 : n > 60 ∧ n ≤ 1024
    · rw [if_pos h1.1, if_pos h1.2]
      exact twins_awake d n E
    · have e : (if n > 60 then (if n ≤ 1024 then some (0 : Int) else some 1) else some 1) = some 1 := by
        split
        · rw [if_neg (by omega)]
        · rfl
      rw [e]
      exact twins_j0 n E d (by omega) hd
end Go.Proofs.Ytbgefphoochgcaa.PA
