/- Chapter 4 over FE's functions: the law GraphLists. -/
import Derived.Test.YtbgefphoochgcaaXG6
namespace Go.Proofs.Ytbgefphoochgcaa.FX
open Go Go.Proofs.Ytbgefphoochgcaa.FE
set_option linter.unusedVariables false
set_option linter.unusedSimpArgs false
theorem and_ref (a b : List Int) (la : a.length ≤ 1000000) (lb : b.length ≤ 1000000) : EvS (fun k => traceryref04_And.g k a b) (some (andL a b)) := by
  unfold traceryref04_And.g
  obtain ⟨r, hq, hr⟩ := count_inv (step := fun k self z => traceryref04_And.l3 k a b self z.1 z.2) a.length (fun i v => v = andL (a.take i) b) (fun r => ∃ i, r = .out (i, andL a b))
    (fun s hJ => ⟨.out ((a.length : Int), s), ⟨(a.length : Int), by rw [hJ, List.take_length]⟩, EvS.of fun k => funext fun self => by simp [traceryref04_And.l3]⟩)
    (fun i v hi hJ => by
      obtain ⟨K, hK⟩ := in_ref b (by omega) a[i]
      have hvl : v.length ≤ i := by rw [hJ]; exact Nat.le_trans (andL_len ..) (by rw [List.length_take]; omega)
      have l1 : limB (v.length + 1) = true := lim_true (by unfold LIM; omega)
      have ht : andL (a.take (i + 1)) b = v ++ if a[i] ∈ b then [a[i]] else [] := by
        rw [hJ, andL, List.take_succ_eq_append_getElem hi, List.filter_append, andL]
        by_cases h : a[i] ∈ b <;> simp [h]
      refine .inr ⟨v ++ (if a[i] ∈ b then [a[i]] else []), ht.symm, K, fun k hk => funext fun self => ?_⟩
      by_cases h : a[i] ∈ b <;> simp [traceryref04_And.l3, hi, idx_nat, hK k hk, h, l1, nat_wrap hi (by omega)])
    [] rfl
  refine EvS.bind hr ?_
  obtain ⟨i, rfl⟩ := hq
  exact EvS.const _
theorem or_ref (a b : List Int) (ha : a.Pairwise (· < ·)) (hb : b.Pairwise (· < ·)) (la : a.length ≤ 1000000) (lb : b.length ≤ 1000000) : EvS (fun k => traceryref04_Or.g k a b) (some (orL a b)) := by
  unfold traceryref04_Or.g
  obtain ⟨r, ⟨v, rfl, hv⟩, hr⟩ := loop_inv (step := fun k self z => traceryref04_Or.l3 a b self z.1 z.2.1 z.2.2)
    (fun z => ∃ i j : Nat, z.1 = (i : Int) ∧ z.2.1 = (j : Int) ∧ Mg true a b z.2.2 i j) (fun z => (a.length - z.1.toNat) + (b.length - z.2.1.toNat))
    (fun r => ∃ v, r = .out ((a.length : Int), (b.length : Int), v) ∧ Mg true a b v a.length b.length)
    (by
      rintro ⟨_, _, v⟩ ⟨i, j, rfl, rfl, h⟩
      have h : Mg true a b v i j := h
      have hlen := h.len
      have hhi := h.hi
      have hhj := h.hj
      have l1 : limB (v.length + 1) = true := lim_true (by unfold LIM; omega)
      by_cases hi : i < a.length
      · by_cases hj : j < b.length
        · by_cases hlt : a[i] < b[j]
          · refine .inr ⟨(((i + 1 : Nat) : Int), (j : Int), v ++ [a[i]]), ⟨i + 1, j, rfl, rfl, by simpa using h.left ha hi (first_least hb fun _ => hlt)⟩, by simp only [Int.toNat_natCast]; omega, EvS.of fun k => funext fun self => ?_⟩
            simp [traceryref04_Or.l3, traceryref04_Or.j4, traceryref04_Or.j5, traceryref04_Or.j7, LO.elim, hi, hj, show ¬ (j : Int) = (b.length : Int) by omega, idx_nat, show a[i] ≤ b[j] by omega, show ¬ a[i] = b[j] by omega, l1, nat_wrap hi (by omega)]
          · by_cases hgt : b[j] < a[i]
            · refine .inr ⟨((i : Int), ((j + 1 : Nat) : Int), v ++ [b[j]]), ⟨i, j + 1, rfl, rfl, by simpa using h.right hb hj (first_least ha fun _ => hgt)⟩, by simp only [Int.toNat_natCast]; omega, EvS.of fun k => funext fun self => ?_⟩
              simp [traceryref04_Or.l3, traceryref04_Or.j4, traceryref04_Or.j5, traceryref04_Or.j7, LO.elim, hi, hj, show ¬ (j : Int) = (b.length : Int) by omega, idx_nat, show ¬ a[i] ≤ b[j] by omega, l1, nat_wrap hj (by omega)]
            · have e : a[i] = b[j] := by omega
              refine .inr ⟨(((i + 1 : Nat) : Int), ((j + 1 : Nat) : Int), v ++ [a[i]]), ⟨i + 1, j + 1, rfl, rfl, h.both ha hb hi hj e⟩, by simp only [Int.toNat_natCast]; omega, EvS.of fun k => funext fun self => ?_⟩
              simp [traceryref04_Or.l3, traceryref04_Or.j4, traceryref04_Or.j5, traceryref04_Or.j7, LO.elim, hi, hj, show ¬ (j : Int) = (b.length : Int) by omega, idx_nat, e, l1, nat_wrap hi (by omega), nat_wrap hj (by omega)]
        · obtain rfl : j = b.length := by omega
          refine .inr ⟨(((i + 1 : Nat) : Int), (b.length : Int), v ++ [a[i]]), ⟨i + 1, b.length, rfl, rfl, by simpa using h.left ha hi (first_least hb fun h => absurd h hj)⟩, by simp only [Int.toNat_natCast]; omega, EvS.of fun k => funext fun self => ?_⟩
          simp [traceryref04_Or.l3, traceryref04_Or.j4, traceryref04_Or.j5, traceryref04_Or.j7, LO.elim, hi, idx_nat, l1, nat_wrap hi (by omega)]
      · obtain rfl : i = a.length := by omega
        by_cases hj : j < b.length
        · refine .inr ⟨((a.length : Int), ((j + 1 : Nat) : Int), v ++ [b[j]]), ⟨a.length, j + 1, rfl, rfl, by simpa using h.right hb hj (first_least ha fun h => absurd h hi)⟩, by simp only [Int.toNat_natCast]; omega, EvS.of fun k => funext fun self => ?_⟩
          simp [traceryref04_Or.l3, traceryref04_Or.j4, traceryref04_Or.j5, LO.elim, hj, show ¬ (j : Int) = (b.length : Int) by omega, idx_nat, l1, nat_wrap hj (by omega)]
        · obtain rfl : j = b.length := by omega
          exact .inl ⟨.out ((a.length : Int), (b.length : Int), v), ⟨v, rfl, h⟩, EvS.of fun k => funext fun self => by simp [traceryref04_Or.l3, traceryref04_Or.j4, LO.elim]⟩)
    (0, 0, []) ⟨0, 0, rfl, rfl, Mg.start true a b⟩
  rw [← hv.or]
  exact EvS.bind hr (EvS.const _)
theorem equal_true {a b : List Int} (h : a.length ≤ 1000000) (e : a = b) : EvS (fun k => traceryref04_Equal.g k a b) (some true) := by
  have := equal_ref a b (by omega)
  rwa [decide_eq_true e] at this
theorem andL_eq_iff {a b : List Int} : (andL a b).length = a.length ↔ andL a b = a :=
  ⟨fun h => (List.filter_sublist).eq_of_length h, fun h => by rw [h]⟩
theorem lists_ev (a b : Pt) (d : Int) : EvS (fun k => tracerylaw04_GraphLists.g k a b d) (some true) := by
  unfold tracerylaw04_GraphLists.g
  refine EvS.bind awake_ev ?_
  simp only [Bool.not_true, cond_false, small_ev, Option.bind_some]
  by_cases hs : smallB (0, []) a = true
  case neg => simp only [hs, if_false, decide_true, cond_true]; simp; exact awake_ev
  by_cases ht : smallB (0, []) b = true
  case neg => simp only [hs, ht, if_true, if_false, decide_true, cond_true, show ¬ (1 : Int) = 0 by decide, decide_false, cond_false]; simp; exact awake_ev
  simp only [hs, ht, if_true, show ¬ (1 : Int) = 0 by decide, decide_false, cond_false]
  obtain ⟨-, s2, s3, -⟩ := small_split hs
  obtain ⟨-, t2, t3, -⟩ := small_split ht
  refine EvS.bind (rises_ref a.1 1099511627776 (by omega)) ?_
  by_cases r1 : risesB a.1 1099511627776 = true
  case neg => simp only [r1, Bool.not_false, cond_true]; exact EvS.const _
  simp only [r1, Bool.not_true, cond_false]
  refine EvS.bind (rises_ref a.2 1099511627776 (by omega)) ?_
  by_cases r2 : risesB a.2 1099511627776 = true
  case neg => simp only [r2, Bool.not_false, cond_true]; exact EvS.const _
  simp only [r2, Bool.not_true, cond_false]
  refine EvS.bind (rises_ref b.1 1099511627776 (by omega)) ?_
  by_cases r3 : risesB b.1 1099511627776 = true
  case neg => simp only [r3, Bool.not_false, cond_true]; exact EvS.const _
  simp only [r3, Bool.not_true, cond_false]
  refine EvS.bind (rises_ref b.2 1099511627776 (by omega)) ?_
  by_cases r4 : risesB b.2 1099511627776 = true
  case neg => simp only [r4, Bool.not_false, cond_true]; exact EvS.const _
  simp only [r4, Bool.not_true, cond_false]
  have ha : Up a := ⟨(risesB_spec r1).2, (risesB_spec r2).2, by omega, by omega⟩
  have hb : Up b := ⟨(risesB_spec r3).2, (risesB_spec r4).2, by omega, by omega⟩
  have n1 := andL_len a.1 b.1
  have n2 := andL_len a.2 b.2
  have m1 := orL_len a.1 b.1
  have m2 := orL_len a.2 b.2
  refine EvS.bind (and_ev ha hb) (EvS.bind (or_ev ha hb) ?_)
  refine EvS.bind (and_ref a.1 b.1 (by omega) (by omega)) (EvS.bind (equal_true (by simp only [andP]; omega) rfl) ?_)
  simp only [Bool.not_true, cond_false]
  refine EvS.bind (and_ref a.2 b.2 (by omega) (by omega)) (EvS.bind (equal_true (by simp only [andP]; omega) rfl) ?_)
  simp only [Bool.not_true, cond_false]
  refine EvS.bind (or_ref a.1 b.1 ha.r1 hb.r1 (by omega) (by omega)) (EvS.bind (equal_true (by simp only [orP]; omega) rfl) ?_)
  simp only [Bool.not_true, cond_false]
  refine EvS.bind (or_ref a.2 b.2 ha.r2 hb.r2 (by omega) (by omega)) (EvS.bind (equal_true (by simp only [orP]; omega) rfl) ?_)
  simp only [Bool.not_true, cond_false]
  obtain ⟨r, hq, hr⟩ := count_inv (step := fun k self z => tracerylaw04_GraphLists.l10 a d self z.1 z.2) a.2.length (fun i v => v = (a.2.take i).filter fun x => !decide (x = d)) (fun r => ∃ i, r = .out (i, a.2.filter fun x => !decide (x = d)))
    (fun s hJ => ⟨.out ((a.2.length : Int), s), ⟨(a.2.length : Int), by rw [hJ, List.take_length]⟩, EvS.of fun k => funext fun self => by simp [tracerylaw04_GraphLists.l10]⟩)
    (fun i v hi hJ => by
      have hvl : v.length ≤ i := by rw [hJ]; exact Nat.le_trans (List.length_filter_le ..) (by rw [List.length_take]; omega)
      have l1 : limB (v.length + 1) = true := lim_true (by unfold LIM; omega)
      have htk : (a.2.take (i + 1)).filter (fun x => !decide (x = d)) = v ++ if a.2[i] = d then [] else [a.2[i]] := by
        rw [hJ, List.take_succ_eq_append_getElem hi, List.filter_append]
        by_cases h : a.2[i] = d <;> simp [h]
      refine .inr ⟨v ++ (if a.2[i] = d then [] else [a.2[i]]), htk.symm, EvS.of fun k => funext fun self => ?_⟩
      by_cases h : a.2[i] = d <;> simp [tracerylaw04_GraphLists.l10, hi, idx_nat, h, l1, nat_wrap hi (by omega)])
    [] rfl
  refine EvS.bind hr ?_
  obtain ⟨i, rfl⟩ := hq
  simp only [LO.elim]
  refine EvS.bind (drop_ev a d ha) ?_
  refine EvS.bind (equal_true (by have := (dropP_up (d := d) ha).l2; omega) rfl) ?_
  simp only [cond_true]
  refine EvS.bind (equal_true (by simp only [dropP]; omega) rfl) ?_
  simp only [cond_true]
  refine EvS.bind (has_ev a.1 (by omega) ha.r1 d) (EvS.bind (in_ref a.1 (by omega) d) ?_)
  simp only [beq_self_eq_true, cond_true]
  refine EvS.bind (same_ev a b (by omega) (by omega)) (EvS.bind (same_ref a b (by omega) (by omega)) ?_)
  simp only [beq_self_eq_true, cond_true]
  refine EvS.bind (within_ev ha hb) ?_
  have e1 : (((andP a b).1.length : Int) = (a.1.length : Int)) ↔ andL a.1 b.1 = a.1 := by rw [← andL_eq_iff]; simp only [andP]; omega
  have e2 : (((andP a b).2.length : Int) = (a.2.length : Int)) ↔ andL a.2 b.2 = a.2 := by rw [← andL_eq_iff]; simp only [andP]; omega
  have e3 : andP a b = a ↔ andL a.1 b.1 = a.1 ∧ andL a.2 b.2 = a.2 := by rw [Prod.ext_iff]; simp only [andP]
  refine EvS.of fun k => ?_
  simp only [e1, e2, e3]
  by_cases h1 : andL a.1 b.1 = a.1 <;> by_cases h2 : andL a.2 b.2 = a.2 <;> simp [h1, h2]
theorem tracerylaw04_GraphLists.holds (a b : Pt) (d : Int) (w1 : Wf (.st (.pair (.sl (.int .i64)) (.sl (.int .i64)))) a) (w2 : Wf (.st (.pair (.sl (.int .i64)) (.sl (.int .i64)))) b) (w3 : Wf (.int .i64) d) : ∃ k, tracerylaw04_GraphLists.f k (a, b, d, ()) = some true := (lists_ev a b d).some
end Go.Proofs.Ytbgefphoochgcaa.FX
