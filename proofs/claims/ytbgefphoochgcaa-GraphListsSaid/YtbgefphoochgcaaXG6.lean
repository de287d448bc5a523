/- Chapter 4 over FE's functions: the laws GraphParts and GraphPuts. -/
import Derived.Test.YtbgefphoochgcaaXG5
namespace Go.Proofs.Ytbgefphoochgcaa.FX
open Go Go.Proofs.Ytbgefphoochgcaa.FE
set_option linter.unusedVariables false
set_option linter.unusedSimpArgs false
theorem risesFrom_of {lim : Int} : ∀ {l : List Int} {last : Int}, (∀ x ∈ l, last < x ∧ x < lim) → l.Pairwise (· < ·) → risesFrom lim last l = true
  | [], _, _, _ => rfl
  | x :: t, last, h, hp => by
    rw [List.pairwise_cons] at hp
    have hx := h x (List.mem_cons_self ..)
    simp only [risesFrom, Bool.and_eq_true, decide_eq_true_eq]
    exact ⟨hx, risesFrom_of (fun y hy => ⟨hp.1 y hy, (h y (List.mem_cons_of_mem _ hy)).2⟩) hp.2⟩
theorem risesB_of {l : List Int} {lim : Int} (h : ∀ x ∈ l, 0 ≤ x ∧ x < lim) (hp : l.Pairwise (· < ·)) : risesB l lim = true := risesFrom_of (fun x hx => by have := h x hx; omega) hp
theorem insB_iff {E : List (Int × Int)} {vs l : List Int} : insB E vs l = true ↔ ∀ x ∈ l, (eAt E x).1 ∈ vs ∧ (eAt E x).2 ∈ vs := by simp [insB, List.all_eq_true]
/-- A part that is right. -/
structure Rt (p : Gr) (q : Pt) : Prop where
  g : rightG p = 0
  up : Up q
  in1 : ∀ x ∈ q.1, 0 ≤ x ∧ x < p.1
  in2 : ∀ x ∈ q.2, 0 ≤ x ∧ x < (p.2.length : Int)
  ends : ∀ x ∈ q.2, (eAt p.2 x).1 ∈ q.1 ∧ (eAt p.2 x).2 ∈ q.1
theorem Rt.zero {p : Gr} {q : Pt} (h : Rt p q) : rightP p q = 0 := by
  unfold rightP
  rw [if_neg (by simp [h.g]), if_pos (risesB_of h.in1 h.up.r1), if_pos (risesB_of h.in2 h.up.r2), if_pos (insB_iff.2 h.ends)]
theorem Rt.of {p : Gr} {q : Pt} (h : rightP p q = 0) (h1 : q.1.length ≤ 60) (h2 : q.2.length ≤ 60) : Rt p q := by
  obtain ⟨g0, g1, g2, g3⟩ := rightP_zero h
  exact ⟨g0, ⟨(risesB_spec g1).2, (risesB_spec g2).2, by omega, by omega⟩, (risesB_spec g1).1, (risesB_spec g2).1, insB_iff.1 g3⟩
theorem part_zero {p : Gr} {q : Pt} (h : Rt p q) : EvS (fun k => graph_RightPart.g k p q) (some 0) := by
  have := part_ev p q (by have := h.up.l1; omega) (by have := h.up.l2; omega)
  rwa [h.zero] at this
theorem and_up {a b : Pt} (ha : Up a) : Up (andP a b) := ⟨andL_rise _ ha.r1, andL_rise _ ha.r2, Nat.le_trans (andL_len ..) ha.l1, Nat.le_trans (andL_len ..) ha.l2⟩
theorem or_up {a b : Pt} (h1 : a.1.length + b.1.length ≤ 100000) (h2 : a.2.length + b.2.length ≤ 100000) : Up (orP a b) := ⟨orL_rise .., orL_rise .., Nat.le_trans (orL_len ..) h1, Nat.le_trans (orL_len ..) h2⟩
theorem Rt.and {p : Gr} {a b : Pt} (ha : Rt p a) (hb : Rt p b) : Rt p (andP a b) where
  g := ha.g
  up := and_up ha.up
  in1 := fun x hx => ha.in1 x ((andL_mem ..).1 hx).1
  in2 := fun x hx => ha.in2 x ((andL_mem ..).1 hx).1
  ends := fun x hx => by
    have h := (andL_mem ..).1 hx
    exact ⟨(andL_mem ..).2 ⟨(ha.ends x h.1).1, (hb.ends x h.2).1⟩, (andL_mem ..).2 ⟨(ha.ends x h.1).2, (hb.ends x h.2).2⟩⟩
theorem Rt.or {p : Gr} {a b : Pt} (ha : Rt p a) (hb : Rt p b) (h1 : a.1.length + b.1.length ≤ 100000) (h2 : a.2.length + b.2.length ≤ 100000) : Rt p (orP a b) where
  g := ha.g
  up := or_up h1 h2
  in1 := fun x hx => ((orL_mem ..).1 hx).elim (ha.in1 x) (hb.in1 x)
  in2 := fun x hx => ((orL_mem ..).1 hx).elim (ha.in2 x) (hb.in2 x)
  ends := fun x hx => by
    rcases (orL_mem ..).1 hx with h | h
    · exact ⟨(orL_mem ..).2 (.inl (ha.ends x h).1), (orL_mem ..).2 (.inl (ha.ends x h).2)⟩
    · exact ⟨(orL_mem ..).2 (.inr (hb.ends x h).1), (orL_mem ..).2 (.inr (hb.ends x h).2)⟩
theorem Rt.drop {p : Gr} {a : Pt} (ha : Rt p a) (d : Int) : Rt p (dropP a d) where
  g := ha.g
  up := dropP_up ha.up
  in1 := ha.in1
  in2 := fun x hx => ha.in2 x (List.mem_filter.1 hx).1
  ends := fun x hx => ha.ends x (List.mem_filter.1 hx).1
theorem within_true {a b : Pt} (ha : Up a) (hb : Up b) (h1 : ∀ x ∈ a.1, x ∈ b.1) (h2 : ∀ x ∈ a.2, x ∈ b.2) : EvS (fun k => graph_Within.g k a b) (some true) := by
  have := within_ev ha hb
  rwa [decide_eq_true (within_iff.2 ⟨h1, h2⟩)] at this
theorem same_true {a b : Pt} (ha : Up a) (h : a = b) : EvS (fun k => graph_Same.g k a b) (some true) := by
  have := same_ev a b (by have := ha.l1; omega) (by have := ha.l2; omega)
  rwa [decide_eq_true h] at this
theorem small_split {p : Gr} {q : Pt} (h : smallB p q = true) : p.2.length ≤ 60 ∧ q.1.length ≤ 60 ∧ q.2.length ≤ 60 ∧ (p.1 ≤ 60 ∨ p.1 > 1024) := by
  simp only [smallB, Bool.and_eq_true, Bool.or_eq_true, decide_eq_true_eq] at h
  omega
theorem upN_len (n : Nat) : (upN n).length = n := by simp [upN]
theorem parts_ev (p : Gr) (a b : Pt) (d : Int) : EvS (fun k => tracerylaw04_GraphParts.g k p a b d) (some true) := by
  unfold tracerylaw04_GraphParts.g
  refine EvS.bind awake_ev ?_
  simp only [Bool.not_true, cond_false, small_ev, Option.bind_some]
  by_cases hs : smallB p a = true
  case neg => simp only [hs, if_false, decide_true, cond_true]; simp; exact awake_ev
  by_cases ht : smallB p b = true
  case neg => simp only [hs, ht, if_true, if_false, decide_true, cond_true, show ¬ (1 : Int) = 0 by decide, decide_false, cond_false]; simp; exact awake_ev
  simp only [hs, ht, if_true, show ¬ (1 : Int) = 0 by decide, decide_false, cond_false]
  obtain ⟨s1, s2, s3, s4⟩ := small_split hs
  obtain ⟨-, t2, t3, -⟩ := small_split ht
  refine EvS.bind (part_ev p a (by omega) (by omega)) ?_
  by_cases ha0 : rightP p a = 0
  case neg => simp only [ha0, decide_false, Bool.not_false, cond_true]; simp; exact awake_ev
  simp only [ha0, decide_true, Bool.not_true, cond_false]
  refine EvS.bind (part_ev p b (by omega) (by omega)) ?_
  by_cases hb0 : rightP p b = 0
  case neg => simp only [hb0, decide_false, Bool.not_false, cond_true]; simp; exact awake_ev
  simp only [hb0, decide_true, Bool.not_true, cond_false]
  have ha := Rt.of ha0 s2 s3
  have hb := Rt.of hb0 t2 t3
  have hor := ha.or hb (by omega) (by omega)
  refine EvS.bind (and_ev ha.up hb.up) (EvS.bind (or_ev ha.up hb.up) (EvS.bind (drop_ev a d ha.up) ?_))
  refine EvS.bind (part_zero (ha.and hb)) ?_
  simp only [decide_true, Bool.not_true, cond_false]
  refine EvS.bind (part_zero hor) ?_
  simp only [decide_true, Bool.not_true, cond_false]
  refine EvS.bind (part_zero (ha.drop d)) ?_
  simp only [decide_true, Bool.not_true, cond_false]
  refine EvS.bind (within_true (and_up ha.up) ha.up (fun x h => ((andL_mem ..).1 h).1) (fun x h => ((andL_mem ..).1 h).1)) ?_
  simp only [cond_true]
  refine EvS.bind (within_true (and_up ha.up) hb.up (fun x h => ((andL_mem ..).1 h).2) (fun x h => ((andL_mem ..).1 h).2)) ?_
  simp only [cond_true]
  refine EvS.bind (within_true ha.up hor.up (fun x h => (orL_mem ..).2 (.inl h)) (fun x h => (orL_mem ..).2 (.inl h))) ?_
  simp only [cond_true]
  refine EvS.bind (within_true hb.up hor.up (fun x h => (orL_mem ..).2 (.inr h)) (fun x h => (orL_mem ..).2 (.inr h))) ?_
  simp only [cond_true]
  refine EvS.bind (within_true (dropP_up ha.up) ha.up (fun x h => h) (fun x h => (List.mem_filter.1 h).1)) ?_
  simp only [cond_true]
  have hup := dropP_up (d := d) ha.up
  refine EvS.bind (has_ev (dropP a d).2 (by have := hup.l2; omega) hup.r2 d) ?_
  have hnd : ¬ d ∈ (dropP a d).2 := fun h => by simpa using (List.mem_filter.1 h).2
  simp only [hnd, decide_false, Bool.not_false, cond_true]
  refine EvS.bind (or_ev (and_up (b := b) ha.up) hor.up) ?_
  have hsame : orP (andP a b) (orP a b) = orP a b := by
    refine Prod.ext ?_ ?_
    · exact rise_unique _ _ (orL_rise ..) (orL_rise ..) fun x => by simp only [orL_mem, orP, andP, andL_mem]; exact ⟨fun h => h.elim (fun h => .inl h.1) id, .inr⟩
    · exact rise_unique _ _ (orL_rise ..) (orL_rise ..) fun x => by simp only [orL_mem, orP, andP, andL_mem]; exact ⟨fun h => h.elim (fun h => .inl h.1) id, .inr⟩
  refine EvS.bind (same_true (by rw [hsame]; exact hor.up) hsame) ?_
  simp only [cond_true]
  refine EvS.bind (whole_ev p) ?_
  obtain ⟨b0, b1, b2, b3⟩ := rightG_zero ha.g
  have hw : wholeG p = (upN p.1.toNat, upN p.2.length) := by simp [wholeG, ha.g]
  rw [hw]
  refine EvS.bind (within_true ha.up ⟨upN_rise _, upN_rise _, by simp only [upN_len]; omega, by simp only [upN_len]; omega⟩ (fun x h => (upN_mem ..).2 (by have := ha.in1 x h; omega)) (fun x h => (upN_mem ..).2 (ha.in2 x h))) ?_
  exact EvS.const _
theorem tracerylaw04_GraphParts.holds (p : Gr) (a b : Pt) (d : Int) (w0 : Wf (.st (.pair (.int .i64) (.sl (.st (.pair (.int .i64) (.int .i64)))))) p) (w1 : Wf (.st (.pair (.sl (.int .i64)) (.sl (.int .i64)))) a) (w2 : Wf (.st (.pair (.sl (.int .i64)) (.sl (.int .i64)))) b) (w3 : Wf (.int .i64) d) : ∃ k, tracerylaw04_GraphParts.f k (p, a, b, d, ()) = some true := (parts_ev p a b d).some
theorem puts_ev (p : Gr) (a : Pt) (d : Int) : EvS (fun k => tracerylaw04_GraphPuts.g k p a d) (some true) := by
  unfold tracerylaw04_GraphPuts.g
  refine EvS.bind awake_ev ?_
  simp only [Bool.not_true, cond_false, small_ev, Option.bind_some]
  by_cases hs : smallB p a = true
  case neg => simp only [hs, if_false, decide_true, cond_true]; simp; exact awake_ev
  simp only [hs, if_true, show ¬ (1 : Int) = 0 by decide, decide_false, cond_false]
  obtain ⟨s1, s2, s3, s4⟩ := small_split hs
  refine EvS.bind (part_ev p a (by omega) (by omega)) ?_
  by_cases ha0 : rightP p a = 0
  case neg => simp only [ha0, decide_false, Bool.not_false, cond_true]; simp; exact awake_ev
  simp only [ha0, decide_true, Bool.not_true, cond_false]
  have ha := Rt.of ha0 s2 s3
  have hup := dropP_up (d := d) ha.up
  refine EvS.bind (drop_ev a d ha.up) (EvS.bind (span_ev p [d] (by simp)) ?_)
  have hdrop : d ∉ a.2 → dropP a d = a := fun h => Prod.ext rfl (keep_all h)
  by_cases hr : risesB [d] p.2.length = true
  · have hsp : spanG p [d] = ((Lib.compact (isort (endsOf p.2 [d])), [d]), 0) := by simp [spanG, ha.g, hr]
    rw [hsp]
    simp only [decide_true, Bool.not_true, cond_false]
    refine EvS.bind (has_ev a.2 (by omega) ha.up.r2 d) ?_
    by_cases hd : d ∈ a.2
    · simp only [hd, decide_true, Bool.not_true, cond_false]
      have hnd : ¬ d ∈ (dropP a d).2 := fun h => by simpa using (List.mem_filter.1 h).2
      refine EvS.bind (has_ev (dropP a d).2 (by have := hup.l2; omega) hup.r2 d) ?_
      simp only [hnd, decide_false, Bool.not_false, cond_true]
      have hends : ∀ x, x ∈ Lib.compact (isort (endsOf p.2 [d])) ↔ x = (eAt p.2 d).1 ∨ x = (eAt p.2 d).2 := fun x => by rw [(sorted_spec _).2]; simp [endsOf]
      have hlen : (Lib.compact (isort (endsOf p.2 [d]))).length ≤ 2 := Nat.le_trans (compact_len _) (by rw [endsOf_length]; simp)
      have hsu : Up (Lib.compact (isort (endsOf p.2 [d])), [d]) := ⟨(sorted_spec _).1, List.pairwise_singleton _ _, by simp only; omega, by simp⟩
      refine EvS.bind (or_ev hup hsu) ?_
      have hor : orP (dropP a d) (Lib.compact (isort (endsOf p.2 [d])), [d]) = a := by
        refine Prod.ext ?_ ?_
        · refine rise_unique _ _ (orL_rise ..) ha.up.r1 fun x => ?_
          simp only [orP, dropP, orL_mem, hends]
          constructor
          · rintro (h | rfl | rfl)
            · exact h
            · exact (ha.ends d hd).1
            · exact (ha.ends d hd).2
          · exact .inl
        · refine rise_unique _ _ (orL_rise ..) ha.up.r2 fun x => ?_
          simp only [orP, dropP, orL_mem, List.mem_filter, List.mem_singleton]
          constructor
          · rintro (h | rfl)
            · exact h.1
            · exact hd
          · intro h
            by_cases e : x = d
            · exact .inr e
            · exact .inl ⟨h, by simp [e]⟩
      refine EvS.bind (same_true (by rw [hor]; exact ha.up) hor) ?_
      simp only [cond_true]
      refine EvS.bind (within_true hsu ha.up (fun x h => by rcases (hends x).1 h with rfl | rfl; exact (ha.ends d hd).1; exact (ha.ends d hd).2) (fun x h => by rw [List.mem_singleton] at h; rw [h]; exact hd)) ?_
      simp only [cond_true]
      have hnw : ¬ andP (Lib.compact (isort (endsOf p.2 [d])), [d]) (dropP a d) = (Lib.compact (isort (endsOf p.2 [d])), [d]) := fun h => hnd ((within_iff.1 h).2 d (List.mem_singleton.2 rfl))
      refine EvS.bind (within_ev hsu hup) ?_
      simp only [hnw, decide_false, Bool.not_false]
      exact EvS.const _
    · simp only [hd, decide_false, Bool.not_false, cond_true]
      refine EvS.bind (same_true hup (hdrop hd)) ?_
      simp only [cond_true]; exact EvS.const _
  · have hsp : spanG p [d] = (([], []), 4) := by simp [spanG, ha.g, hr]
    have hd : d ∉ a.2 := fun h => hr (risesB_of (fun x hx => by rw [List.mem_singleton] at hx; subst hx; exact ha.in2 x h) (List.pairwise_singleton _ _))
    rw [hsp]
    simp only [show ¬ (4 : Int) = 0 by decide, decide_false, Bool.not_false, cond_true]
    refine EvS.bind (same_true hup (hdrop hd)) ?_
    simp only [cond_true]; exact EvS.const _
theorem tracerylaw04_GraphPuts.holds (p : Gr) (a : Pt) (d : Int) (w0 : Wf (.st (.pair (.int .i64) (.sl (.st (.pair (.int .i64) (.int .i64)))))) p) (w1 : Wf (.st (.pair (.sl (.int .i64)) (.sl (.int .i64)))) a) (w2 : Wf (.int .i64) d) : ∃ k, tracerylaw04_GraphPuts.f k (p, a, d, ()) = some true := (puts_ev p a d).some
end Go.Proofs.Ytbgefphoochgcaa.FX
