/- What package graph answers, in lists (plain Lean over the printed functions). -/
import Derived.Test.YtbgefphoochgcaaAid
import Derived.Test.YtbgefphoochgcaaPAx2
import Derived.Test.YtbgefphoochgcaaPAx8
import Derived.Test.YtbgefphoochgcaaPAx7
import Derived.Test.YtbgefphoochgcaaPAx9
import Derived.Test.YtbgefphoochgcaaPAx10
import Derived.Test.YtbgefphoochgcaaPAx12
import Derived.Test.YtbgefphoochgcaaPAx19
namespace Go.Proofs.Ytbgefphoochgcaa.PA
open Go.RowKit Go.Proofs.YtbgefphoochgcaaW.PrintWords Go.Proofs.YtbgefphoochgcaaW.PrintLast

abbrev Ed := S56
def rdE (l : List Ed) (i : Int) : Ed := rd_T56 l i
theorem rdE_nat (l : List Ed) (i : Nat) (h : i < l.length) : rd_T56 l (i : Int) = l[i] := by simp [rd_T56, List.getD_eq_getElem?_getD, h]

/-! ### graphs -/
def insideB (n v : Int) : Bool := decide (0 ≤ v) && decide (v < n)
theorem inside_eq (n : Int) (E : List Ed) (v : Int) : graph_inside.f n E v = some (insideB n v) := by
  unfold graph_inside.f insideB
  by_cases h : v ≥ 0
  · rw [if_pos h, decide_eq_true (show (0 : Int) ≤ v by omega), Bool.true_and]
  · rw [if_neg h, decide_eq_false (show ¬ (0 : Int) ≤ v by omega), Bool.false_and]
def edgesB (n : Int) (E : List Ed) : Bool := E.all fun e => insideB n e.f0 && insideB n e.f1
def rightG (n : Int) (E : List Ed) : Int := if n < 0 then 3 else if n > 1024 then 2 else if (E.length : Int) > 1024 - n then 2 else if edgesB n E then 0 else 3
theorem right_l0 (n : Int) (E : List Ed) (hE : E.length ≤ 1000000) : ∀ (d i : Nat), E.length - i = d → i ≤ E.length → Ev (fun k => graph_Right.l0 k E (E.length : Int) i n E) (if edgesB n (E.drop i) then 0 else 3)
  | 0, i => fun hd hi => by
    obtain rfl : i = E.length := by omega
    rw [List.drop_length]
    refine Ev.step (f := fun _ => some 0) (fun k => ?_) (Ev.now _)
    simp only [graph_Right.l0]
    rw [if_neg (by omega)]
  | d + 1, i => fun hd hi => by
    have hi' : i < E.length := by omega
    have ih := right_l0 n E hE d (i + 1) (by omega) (by omega)
    have ed : edgesB n (E.drop i) = ((insideB n E[i].f0 && insideB n E[i].f1) && edgesB n (E.drop (i + 1))) := by
      rw [List.drop_eq_getElem_cons hi']
      simp only [edgesB, List.all_cons]
    rw [ed]
    by_cases h0 : insideB n E[i].f0 = true
    · by_cases h1 : insideB n E[i].f1 = true
      · rw [h0, h1, Bool.true_and, Bool.true_and]
        refine Ev.step (f := fun k => graph_Right.l0 k E (E.length : Int) ((i + 1 : Nat) : Int) n E) (fun k => ?_) ih
        simp only [graph_Right.l0, inside_eq]
        rw [if_pos (by omega), if_pos (by omega), if_pos (by omega), rdE_nat E i hi', h0, h1, wrap_id _ (by omega)]
        rfl
      · rw [Bool.not_eq_true] at h1
        rw [h0, h1, Bool.true_and, Bool.false_and]
        refine Ev.step (f := fun _ => some 3) (fun k => ?_) (Ev.now _)
        simp only [graph_Right.l0, inside_eq]
        rw [if_pos (by omega), if_pos (by omega), if_pos (by omega), rdE_nat E i hi', h0, h1]
        rfl
    · rw [Bool.not_eq_true] at h0
      rw [h0, Bool.false_and, Bool.false_and]
      refine Ev.step (f := fun _ => some 3) (fun k => ?_) (Ev.now _)
      simp only [graph_Right.l0, inside_eq]
      rw [if_pos (by omega), if_pos (by omega), if_pos (by omega), rdE_nat E i hi', h0]
      rfl
theorem right_ev (n : Int) (E : List Ed) : Ev (fun k => graph_Right.f k n E) (rightG n E) := by
  unfold graph_Right.f rightG
  by_cases h0 : n < 0
  · simp only [h0, if_true]; exact Ev.now _
  by_cases h1 : n > 1024
  · simp only [h0, h1, if_true, if_false]; exact Ev.now _
  simp only [h0, h1, if_false]
  rw [wrap_id (1024 - n) (by omega)]
  by_cases h2 : (E.length : Int) > 1024 - n
  · simp only [h2, if_true]; exact Ev.now _
  simp only [h2, if_false]
  exact right_l0 n E (by omega) _ 0 rfl (by omega)

/-! ### lists that rise -/
def risesFrom (lim : Int) : Int → List Int → Bool
  | _, [] => true
  | last, x :: t => decide (last < x) && decide (x < lim) && risesFrom lim x t
theorem rises_l0 (lim : Int) (l : List Int) (hl : l.length ≤ 1000000) : ∀ (d i : Nat) (last : Int), l.length - i = d → i ≤ l.length → Ev (fun k => graph_rises.l0 k lim last l (l.length : Int) i) (risesFrom lim last (l.drop i))
  | 0, i, last => fun hd hi => by
    obtain rfl : i = l.length := by omega
    rw [List.drop_length]
    refine Ev.step (f := fun _ => some true) (fun k => ?_) (Ev.now _)
    simp only [graph_rises.l0]
    rw [if_neg (by omega)]
  | d + 1, i, last => fun hd hi => by
    have hi' : i < l.length := by omega
    have ih := rises_l0 lim l hl d (i + 1) l[i] (by omega) (by omega)
    rw [List.drop_eq_getElem_cons hi']
    simp only [risesFrom]
    by_cases h0 : l[i] ≤ last
    · rw [decide_eq_false (by omega), Bool.false_and, Bool.false_and]
      refine Ev.step (f := fun _ => some false) (fun k => ?_) (Ev.now _)
      simp only [graph_rises.l0]
      rw [if_pos (by omega), if_pos (by omega), if_pos (by omega), rd_nat l i hi', if_pos h0]
    · rw [decide_eq_true (show last < l[i] by omega), Bool.true_and]
      by_cases h1 : l[i] ≥ lim
      · rw [decide_eq_false (by omega), Bool.false_and]
        refine Ev.step (f := fun _ => some false) (fun k => ?_) (Ev.now _)
        simp only [graph_rises.l0]
        rw [if_pos (by omega), if_pos (by omega), if_pos (by omega), rd_nat l i hi', if_neg h0, if_pos h1]
      · rw [decide_eq_true (show l[i] < lim by omega), Bool.true_and]
        refine Ev.step (f := fun k => graph_rises.l0 k lim l[i] l (l.length : Int) ((i + 1 : Nat) : Int)) (fun k => ?_) ih
        simp only [graph_rises.l0]
        rw [if_pos (by omega), if_pos (by omega), if_pos (by omega), rd_nat l i hi', if_neg h0, if_neg h1, wrap_id _ (by omega)]
        rfl
theorem rises_ev (l : List Int) (lim : Int) (hl : l.length ≤ 1000000) : Ev (fun k => graph_rises.f k l lim) (risesFrom lim (-1) l) := rises_l0 lim l hl _ 0 (-1) rfl (by omega)

/-! ### is a number in a list that rises? -/
theorem risesFrom_spec (lim : Int) : ∀ (l : List Int) (last : Int), risesFrom lim last l = true → (∀ x ∈ l, last < x ∧ x < lim) ∧ l.Pairwise (· < ·)
  | [], _, _ => ⟨by simp, List.Pairwise.nil⟩
  | x :: t, last, h => by
    simp only [risesFrom, Bool.and_eq_true, decide_eq_true_eq] at h
    obtain ⟨⟨h1, h2⟩, h3⟩ := h
    obtain ⟨h4, h5⟩ := risesFrom_spec lim t x h3
    refine ⟨fun y hy => ?_, List.pairwise_cons.2 ⟨fun y hy => (h4 y hy).1, h5⟩⟩
    rcases List.mem_cons.1 hy with rfl | hy
    · exact ⟨h1, h2⟩
    · exact ⟨by have := (h4 y hy).1; omega, (h4 y hy).2⟩
theorem less_eq (a b : Int) : cmp_Less_int.f a b = some (decide (a < b)) := by
  unfold cmp_Less_int.f cmp_isNaN_int.f
  simp
theorem bs_l0 (l : List Int) (hl : l.length ≤ 1000000) (hs : l.Pairwise (· < ·)) (x : Int) : ∀ (d lo hi : Nat), hi - lo = d → lo ≤ hi → hi ≤ l.length → (∀ (j : Nat) (h : j < l.length), j < lo → l[j] < x) → (∀ (j : Nat) (h : j < l.length), hi ≤ j → x ≤ l[j]) →
    ∃ m, Ev (fun k => slices_BinarySearch_int_int.l0 k l x (l.length : Int) lo hi) (m, decide (x ∈ l)) := by
  intro d
  induction d using Nat.strongRecOn with
  | _ d ih =>
    intro lo hi hd hlh hhl hlow hhigh
    by_cases h : lo < hi
    · have hm : wrap64 (IntKind.u64.wrap (wrap64 ((lo : Int) + (hi : Int))) / 2) = (((lo + hi) / 2 : Nat) : Int) := by
        rw [wrap_id ((lo : Int) + hi) (by omega), IntWalk.u64_in _ (by omega), wrap_id _ (by omega)]
        omega
      obtain ⟨mid, hmid⟩ : ∃ mid, mid = (lo + hi) / 2 := ⟨_, rfl⟩
      rw [← hmid] at hm
      have hmlt : mid < l.length := by omega
      by_cases hx : l[mid] < x
      · obtain ⟨m, he⟩ := ih (hi - (mid + 1)) (by omega) (mid + 1) hi rfl (by omega) hhl (fun j hj hjl => by
          rcases Nat.lt_or_ge j mid with h1 | h1
          · have := (List.pairwise_iff_getElem.1 hs) j mid hj hmlt h1
            omega
          · obtain rfl : j = mid := by omega
            exact hx) hhigh
        refine ⟨m, Ev.step (f := fun k => slices_BinarySearch_int_int.l0 k l x (l.length : Int) ((mid + 1 : Nat) : Int) hi) (fun k => ?_) he⟩
        simp only [slices_BinarySearch_int_int.l0]
        rw [hm, if_pos (by omega), if_pos (by omega), if_pos (by omega), less_eq, rd_nat l mid hmlt, decide_eq_true hx, wrap_id _ (by omega)]
        rfl
      · obtain ⟨m, he⟩ := ih (mid - lo) (by omega) lo mid rfl (by omega) (by omega) hlow (fun j hj hjl => by
          rcases Nat.lt_or_ge mid j with h1 | h1
          · have := (List.pairwise_iff_getElem.1 hs) mid j hmlt hj h1
            omega
          · obtain rfl : j = mid := by omega
            omega)
        refine ⟨m, Ev.step (f := fun k => slices_BinarySearch_int_int.l0 k l x (l.length : Int) lo (mid : Int)) (fun k => ?_) he⟩
        simp only [slices_BinarySearch_int_int.l0]
        rw [hm, if_pos (by omega), if_pos (by omega), if_pos (by omega), less_eq, rd_nat l mid hmlt, decide_eq_false hx]
        rfl
    · obtain rfl : lo = hi := by omega
      by_cases hn : lo < l.length
      · by_cases hx : l[lo] = x
        · refine ⟨lo, Ev.step (f := fun _ => some ((lo : Int), decide (x ∈ l))) (fun k => ?_) (Ev.now _)⟩
          simp only [slices_BinarySearch_int_int.l0]
          rw [if_neg (by omega), if_pos (by omega), if_pos (by omega), if_pos (by omega), rd_nat l lo hn, if_pos hx, decide_eq_true (show x ∈ l from hx ▸ List.getElem_mem hn)]
        · have hnm : x ∉ l := fun hm => by
            obtain ⟨j, hj, e⟩ := List.getElem_of_mem hm
            rcases Nat.lt_or_ge j lo with h1 | h1
            · have := hlow j hj h1; omega
            · have h2 := hhigh lo hn (Nat.le_refl _)
              rcases Nat.lt_or_ge lo j with h3 | h3
              · have := (List.pairwise_iff_getElem.1 hs) lo j hn hj h3; omega
              · obtain rfl : j = lo := by omega
                exact hx e
          refine ⟨lo, Ev.step (f := fun _ => some ((lo : Int), decide (x ∈ l))) (fun k => ?_) (Ev.now _)⟩
          simp only [slices_BinarySearch_int_int.l0, slices_isNaN_int.f]
          rw [if_neg (by omega), if_pos (by omega), if_pos (by omega), if_pos (by omega), rd_nat l lo hn, if_neg hx, decide_eq_false hnm]
          simp
      · have hnm : x ∉ l := fun hm => by
          obtain ⟨j, hj, e⟩ := List.getElem_of_mem hm
          have := hlow j hj (by omega)
          omega
        refine ⟨lo, Ev.step (f := fun _ => some ((lo : Int), decide (x ∈ l))) (fun k => ?_) (Ev.now _)⟩
        simp only [slices_BinarySearch_int_int.l0]
        rw [if_neg (by omega), if_neg (by omega), decide_eq_false hnm]
theorem has_ev (l : List Int) (hl : l.length ≤ 1000000) (hs : l.Pairwise (· < ·)) (x : Int) : Ev (fun k => graph_Has.f k l x) (decide (x ∈ l)) := by
  unfold graph_Has.f slices_BinarySearch_int_int.f
  obtain ⟨m, he⟩ := bs_l0 l hl hs x _ 0 l.length rfl (by omega) (Nat.le_refl _) (fun j _ h => by omega) (fun j hj h => by omega)
  exact Ev.bind he (Ev.now _)

/-! ### all of a graph -/
def upList (n : Nat) : List Int := (List.range n).map fun (i : Nat) => (i : Int)
theorem upList_length (n : Nat) : (upList n).length = n := by simp [upList]
theorem upList_get (n i : Nat) (h : i < (upList n).length) : (upList n)[i] = (i : Int) := by simp [upList]
theorem upList_mem (n : Nat) (x : Int) : x ∈ upList n ↔ 0 ≤ x ∧ x < n := by
  simp only [upList, List.mem_map, List.mem_range]
  constructor
  · rintro ⟨i, hi, rfl⟩; omega
  · rintro ⟨h0, h1⟩; exact ⟨x.toNat, by omega, by omega⟩
theorem up_l0 (n : Nat) (hn : n ≤ 1000000) : ∀ (d i : Nat), n - i = d → i ≤ n → Ev (fun k => graph_upTo.l0 k (upList i) (n : Int) i) (upList n)
  | 0, i => fun hd hi => by
    obtain rfl : i = n := by omega
    refine Ev.step (f := fun _ => some (upList i)) (fun k => ?_) (Ev.now _)
    simp only [graph_upTo.l0]
    rw [if_neg (by omega)]
  | d + 1, i => fun hd hi => by
    have ih := up_l0 n hn d (i + 1) (by omega) (by omega)
    have e : upList (i + 1) = upList i ++ [(i : Int)] := by simp [upList, List.range_succ]
    rw [e] at ih
    refine Ev.step (f := fun k => graph_upTo.l0 k (upList i ++ [(i : Int)]) (n : Int) ((i + 1 : Nat) : Int)) (fun k => ?_) ih
    simp only [graph_upTo.l0]
    rw [if_pos (by omega), if_pos (by rw [upList_length]; omega), wrap_id _ (by omega)]
    rfl
theorem up_ev (n : Nat) (hn : n ≤ 1000000) : Ev (fun k => graph_upTo.f k (n : Int)) (upList n) := up_l0 n hn _ 0 rfl (by omega)
theorem whole_ev (n : Int) (E : List Ed) (h : rightG n E = 0) : Ev (fun k => graph_Whole.f k n E) (upList n.toNat, upList E.length) := by
  unfold graph_Whole.f
  have hr := right_ev n E
  rw [h] at hr
  have hb : 0 ≤ n ∧ n ≤ 1024 ∧ (E.length : Int) ≤ 1024 - n := by
    unfold rightG at h
    split at h
    · omega
    · split at h
      · omega
      · split at h
        · omega
        · omega
  obtain ⟨m, rfl⟩ := Int.eq_ofNat_of_zero_le hb.1
  refine Ev.bind hr ?_
  simp only [if_true]
  refine Ev.bind (up_ev m (by omega)) ?_
  refine Ev.bind (up_ev E.length (by omega)) ?_
  exact Ev.now _

/-! ### parts -/
def endsB (E : List Ed) (V P : List Int) : Bool := P.all fun e => decide ((rdE E e).f0 ∈ V) && decide ((rdE E e).f1 ∈ V)
def rightP (n : Int) (E : List Ed) (V P : List Int) : Int := if rightG n E = 0 then (if (risesFrom n (-1) V && risesFrom E.length (-1) P) = true then (if endsB E V P = true then 0 else 4) else 4) else rightG n E
theorem part_l0 (n : Int) (E : List Ed) (V P : List Int) (hP : P.length ≤ 1000000) (hV : V.length ≤ 1000000) (hs : V.Pairwise (· < ·)) (hr : ∀ x ∈ P, 0 ≤ x ∧ x < E.length) : ∀ (d i : Nat), P.length - i = d → i ≤ P.length → Ev (fun k => graph_RightPart.l0 k P (P.length : Int) i n E V P) (if endsB E V (P.drop i) = true then 0 else 4)
  | 0, i => fun hd hi => by
    obtain rfl : i = P.length := by omega
    rw [List.drop_length]
    refine Ev.step (f := fun _ => some 0) (fun k => ?_) (Ev.now _)
    simp only [graph_RightPart.l0]
    rw [if_neg (by omega)]
  | d + 1, i => fun hd hi => by
    have hi' : i < P.length := by omega
    have ih := part_l0 n E V P hP hV hs hr d (i + 1) (by omega) (by omega)
    have hb := hr P[i] (List.getElem_mem hi')
    have ed : endsB E V (P.drop i) = ((decide ((rdE E P[i]).f0 ∈ V) && decide ((rdE E P[i]).f1 ∈ V)) && endsB E V (P.drop (i + 1))) := by
      rw [List.drop_eq_getElem_cons hi']
      simp only [endsB, List.all_cons]
    rw [ed]
    have e0 := has_ev V hV hs (rdE E P[i]).f0
    have e1 := has_ev V hV hs (rdE E P[i]).f1
    refine Ev.step (f := fun k => (graph_Has.f k V (rdE E P[i]).f0).bind fun t125 => if t125 = true then ((graph_Has.f k V (rdE E P[i]).f1).bind fun t127 => if t127 = true then graph_RightPart.l0 k P (P.length : Int) ((i + 1 : Nat) : Int) n E V P else some 4) else some 4) (fun k => ?_) ?_
    · simp only [graph_RightPart.l0, rdE]
      rw [if_pos (by omega), if_pos (by omega), if_pos (by omega), rd_nat P i hi', if_pos hb.1, if_pos hb.2, wrap_id _ (by omega)]
      rfl
    · refine Ev.bind e0 ?_
      by_cases h0 : (rdE E P[i]).f0 ∈ V
      · simp only [h0, decide_true, if_true, Bool.true_and]
        refine Ev.bind e1 ?_
        by_cases h1 : (rdE E P[i]).f1 ∈ V
        · simp only [h1, decide_true, if_true, Bool.true_and]
          exact ih
        · simp only [h1, decide_false, Bool.false_and, Bool.false_eq_true, if_false]
          exact Ev.now _
      · simp only [h0, decide_false, Bool.false_and, Bool.false_eq_true, if_false]
        exact Ev.now _
theorem part_ev (n : Int) (E : List Ed) (V P : List Int) (hP : P.length ≤ 1000000) (hV : V.length ≤ 1000000) : Ev (fun k => graph_RightPart.f k n E V P) (rightP n E V P) := by
  unfold graph_RightPart.f rightP
  refine Ev.bind (right_ev n E) ?_
  by_cases h : rightG n E = 0
  · simp only [h, if_true]
    refine Ev.bind (rises_ev V n hV) ?_
    by_cases h1 : risesFrom n (-1) V = true
    · simp only [h1, if_true, Bool.true_and]
      refine Ev.bind (rises_ev P E.length hP) ?_
      by_cases h2 : risesFrom E.length (-1) P = true
      · simp only [h2, if_true, Bool.not_true]
        have hp := (risesFrom_spec _ P _ h2).1
        have := part_l0 n E V P hP hV (risesFrom_spec _ V _ h1).2 (fun x hx => ⟨by have := (hp x hx).1; omega, (hp x hx).2⟩) _ 0 rfl (by omega)
        exact Ev.step (fun k => by simp only [graph_RightPart.j0]; rw [if_neg (by simp)]; rfl) this
      · rw [Bool.not_eq_true] at h2
        simp only [h2, Bool.not_false, Bool.false_eq_true, if_false]
        exact Ev.step (f := fun _ => some 4) (fun k => by simp [graph_RightPart.j0]) (Ev.now _)
    · rw [Bool.not_eq_true] at h1
      simp only [h1, Bool.false_and, Bool.false_eq_true, if_false]
      exact Ev.step (f := fun _ => some 4) (fun k => by simp [graph_RightPart.j0]) (Ev.now _)
  · simp only [h, if_false]
    exact Ev.now _

/-! ### darts -/
def endsD (n : Int) (E : List Ed) (d : Int) : Int × Int × Bool :=
  if rightG n E = 0 ∧ 0 ≤ d ∧ d / 2 < E.length then (if d % 2 = 1 then ((rdE E (d / 2)).f1, (rdE E (d / 2)).f0, true) else ((rdE E (d / 2)).f0, (rdE E (d / 2)).f1, true)) else (0, 0, false)
theorem ends_ev (n : Int) (E : List Ed) (d : Int) (hd : -9223372036854775808 ≤ d ∧ d ≤ 9223372036854775807) : Ev (fun k => graph_Ends.f k n E d) (endsD n E d) := by
  unfold graph_Ends.f endsD
  have hj : ∀ (c : Prop) [Decidable c] (a : Int × Int × Bool), ¬ c → Ev (fun k => graph_Ends.j0 k d true n E) (if c then a else (0, 0, false)) := fun c _ a hc => by
    rw [if_neg hc]
    exact Ev.step (f := fun _ => some (0, 0, false)) (fun k => by simp [graph_Ends.j0]) (Ev.now _)
  refine Ev.bind (right_ev n E) ?_
  by_cases h : rightG n E = 0
  · simp only [h, if_true]
    by_cases h0 : d < 0
    · simp only [h0, if_true]
      exact hj _ _ (by omega)
    · simp only [h0, if_false]
      have e2 : Int.tdiv d 2 = d / 2 := Int.tdiv_eq_ediv_of_nonneg (by omega)
      have hw : wrap64 (Int.tdiv d 2) = d / 2 := by rw [e2, wrap_id _ (by omega)]
      rw [hw]
      by_cases h1 : d / 2 ≥ E.length
      · rw [decide_eq_true h1]
        exact hj _ _ (by omega)
      · rw [decide_eq_false h1]
        have em : Int.tmod d 2 = d % 2 := Int.tmod_eq_emod_of_nonneg (by omega)
        refine Ev.step (f := fun _ => some (if d % 2 = 1 then ((rdE E (d / 2)).f1, (rdE E (d / 2)).f0, true) else ((rdE E (d / 2)).f0, (rdE E (d / 2)).f1, true))) (fun k => ?_) ?_
        · simp only [graph_Ends.j0, rdE]
          rw [if_neg (by simp), hw, if_pos (by omega), if_pos (by omega), em]
          by_cases h2 : d % 2 = 1
          · rw [if_pos h2, if_pos h2]
          · rw [if_neg h2, if_neg h2]
        · rw [if_pos (c := True ∧ 0 ≤ d ∧ d / 2 < (E.length : Int)) ⟨trivial, by omega, by omega⟩]
          exact Ev.now _
  · simp only [h, if_false]
    exact hj _ _ (fun hc => hc.1)

def dartsAt (E : List Ed) (v e : Int) : List Int := (if (rdE E e).f0 = v then [2 * e] else []) ++ (if (rdE E e).f1 = v then [2 * e + 1] else [])
def dartsOf (E : List Ed) (P : List Int) (v : Int) : List Int := P.flatMap (dartsAt E v)
theorem dartsAt_len (E : List Ed) (v e : Int) : (dartsAt E v e).length ≤ 2 := by
  unfold dartsAt
  rw [List.length_append]
  split <;> split <;> simp
theorem darts_l0 (n : Int) (E : List Ed) (v : Int) (P : List Int) (hP : P.length ≤ 1000000) (hE : E.length ≤ 1000000) (hr : ∀ x ∈ P, 0 ≤ x ∧ x < E.length) : ∀ (d i : Nat) (acc : List Int), P.length - i = d → i ≤ P.length → acc.length ≤ 2 * i → Ev (fun k => graph_Darts.l0 k v acc P (P.length : Int) i n E) (acc ++ dartsOf E (P.drop i) v)
  | 0, i, acc => fun hd hi ha => by
    obtain rfl : i = P.length := by omega
    rw [List.drop_length]
    refine Ev.step (f := fun _ => some (acc ++ dartsOf E [] v)) (fun k => ?_) (Ev.now _)
    simp only [graph_Darts.l0]
    rw [if_neg (by omega)]
    simp [dartsOf]
  | d + 1, i, acc => fun hd hi ha => by
    have hi' : i < P.length := by omega
    have hb := hr P[i] (List.getElem_mem hi')
    have ih := darts_l0 n E v P hP hE hr d (i + 1) (acc ++ dartsAt E v P[i]) (by omega) (by omega) (by have := dartsAt_len E v P[i]; rw [List.length_append]; omega)
    have ed : acc ++ dartsOf E (P.drop i) v = acc ++ dartsAt E v P[i] ++ dartsOf E (P.drop (i + 1)) v := by
      rw [List.drop_eq_getElem_cons hi']
      simp only [dartsOf, List.flatMap_cons, List.append_assoc]
    rw [ed]
    refine Ev.step (f := fun k => graph_Darts.l0 k v (acc ++ dartsAt E v P[i]) P (P.length : Int) ((i + 1 : Nat) : Int) n E) (fun k => ?_) ih
    simp only [graph_Darts.l0]
    rw [if_pos (by omega), if_pos (by omega), if_pos (by omega), rd_nat P i hi', if_pos hb.1, if_pos hb.2, wrap_id (2 * P[i]) (by omega), wrap_id (2 * P[i] + 1) (by omega), wrap_id ((i : Int) + 1) (by omega)]
    unfold dartsAt rdE
    by_cases h0 : (rd_T56 E P[i]).f0 = v
    · rw [if_pos h0, if_pos h0, if_pos (by omega)]
      simp only [Option.bind_some]
      by_cases h1 : (rd_T56 E P[i]).f1 = v
      · rw [if_pos h1, if_pos h1, if_pos (by rw [List.length_append, List.length_singleton]; omega)]
        simp
      · rw [if_neg h1, if_neg h1]
        simp
    · rw [if_neg h0, if_neg h0]
      by_cases h1 : (rd_T56 E P[i]).f1 = v
      · rw [if_pos h1, if_pos h1, if_pos (by omega)]
        simp
      · rw [if_neg h1, if_neg h1]
        simp
end Go.Proofs.Ytbgefphoochgcaa.PA
