/- Chapter 4 over FE's functions: two lists that rise, together; an edge dropped. -/
import Derived.Test.YtbgefphoochgcaaXG4
namespace Go.Proofs.Ytbgefphoochgcaa.FX
open Go Go.Proofs.Ytbgefphoochgcaa.FE
set_option linter.unusedVariables false
set_option linter.unusedSimpArgs false
def inTo (a : List Int) (i : Nat) (x : Int) : Prop := ∃ k, ∃ h : k < a.length, k < i ∧ a[k] = x
theorem inTo_succ {a : List Int} {i : Nat} (hi : i < a.length) (x : Int) : inTo a (i + 1) x ↔ inTo a i x ∨ a[i] = x := by
  constructor
  · rintro ⟨k, h, hk, e⟩
    rcases Nat.lt_or_ge k i with h1 | h1
    · exact .inl ⟨k, h, h1, e⟩
    · obtain rfl : k = i := by omega
      exact .inr e
  · rintro (⟨k, h, hk, e⟩ | e)
    · exact ⟨k, h, by omega, e⟩
    · exact ⟨i, hi, by omega, e⟩
theorem inTo_all (a : List Int) (x : Int) : inTo a a.length x ↔ x ∈ a := by
  constructor
  · rintro ⟨k, h, -, rfl⟩; exact List.getElem_mem h
  · intro h
    obtain ⟨k, hk, e⟩ := List.getElem_of_mem h
    exact ⟨k, hk, hk, e⟩
theorem inTo_lt {a : List Int} (hs : a.Pairwise (· < ·)) {i : Nat} (hi : i < a.length) {x : Int} (h : inTo a i x) : x < a[i] := by
  obtain ⟨k, h, hk, rfl⟩ := h
  exact List.pairwise_iff_getElem.1 hs k i h hi hk
structure Mg (u : Bool) (a b v : List Int) (i j : Nat) : Prop where
  hi : i ≤ a.length
  hj : j ≤ b.length
  rise : v.Pairwise (· < ·)
  mem : ∀ x, x ∈ v ↔ (if u = true then inTo a i x ∨ inTo b j x else inTo a i x ∧ inTo b j x)
  ab : ∀ x, inTo a i x → ∀ (j' : Nat) (h : j' < b.length), j ≤ j' → x < b[j']
  ba : ∀ x, inTo b j x → ∀ (i' : Nat) (h : i' < a.length), i ≤ i' → x < a[i']
  len : v.length ≤ i + j
theorem Mg.swap {u : Bool} {a b v : List Int} {i j : Nat} (h : Mg u a b v i j) : Mg u b a v j i :=
  ⟨h.hj, h.hi, h.rise, fun x => (h.mem x).trans (by cases u <;> simp [or_comm, and_comm]), h.ba, h.ab, by have := h.len; omega⟩
theorem Mg.start (u : Bool) (a b : List Int) : Mg u a b [] 0 0 where
  hi := Nat.zero_le _
  hj := Nat.zero_le _
  rise := List.Pairwise.nil
  mem := fun x => by cases u <;> simp [inTo]
  ab := fun x ⟨k, h, hk, _⟩ => absurd hk (by omega)
  ba := fun x ⟨k, h, hk, _⟩ => absurd hk (by omega)
  len := Nat.le_refl _
theorem Mg.below {u : Bool} {a b v : List Int} {i j : Nat} (h : Mg u a b v i j) (ha : a.Pairwise (· < ·)) (hi : i < a.length) : ∀ x ∈ v, x < a[i] := by
  intro x hx
  have := (h.mem x).1 hx
  cases u with
  | true =>
    rcases this with h1 | h1
    · exact inTo_lt ha hi h1
    · exact h.ba x h1 i hi (Nat.le_refl _)
  | false => exact inTo_lt ha hi this.1
theorem rise_snoc {v : List Int} {y : Int} (h : v.Pairwise (· < ·)) (hy : ∀ x ∈ v, x < y) : (v ++ [y]).Pairwise (· < ·) :=
  List.pairwise_append.2 ⟨h, List.pairwise_singleton _ _, fun x hx z hz => by rw [List.mem_singleton] at hz; subst hz; exact hy x hx⟩
theorem Mg.left {u : Bool} {a b v : List Int} {i j : Nat} (h : Mg u a b v i j) (ha : a.Pairwise (· < ·)) (hi : i < a.length) (hb : ∀ (j' : Nat) (h : j' < b.length), j ≤ j' → a[i] < b[j']) : Mg u a b (if u = true then v ++ [a[i]] else v) (i + 1) j where
  hi := hi
  hj := h.hj
  rise := by
    cases u with
    | true => exact rise_snoc h.rise (h.below ha hi)
    | false => exact h.rise
  mem := fun x => by
    rw [inTo_succ hi]
    cases u with
    | true =>
      simp only [if_true, List.mem_append, List.mem_singleton, h.mem]
      constructor
      · rintro ((h1 | h1) | h1)
        · exact .inl (.inl h1)
        · exact .inr h1
        · exact .inl (.inr h1.symm)
      · rintro ((h1 | h1) | h1)
        · exact .inl (.inl h1)
        · exact .inr h1.symm
        · exact .inl (.inr h1)
    | false =>
      have hm := h.mem x
      simp only [Bool.false_eq_true, if_false] at hm ⊢
      rw [hm]
      constructor
      · rintro ⟨h1, h2⟩; exact ⟨.inl h1, h2⟩
      · rintro ⟨h1 | h1, h2⟩
        · exact ⟨h1, h2⟩
        · have := h.ba x h2 i hi (Nat.le_refl _); omega
  ab := fun x hx j' hj' hjj => by
    rcases (inTo_succ hi x).1 hx with h1 | h1
    · exact h.ab x h1 j' hj' hjj
    · subst h1; exact hb j' hj' hjj
  ba := fun x hx i' hi' hii => h.ba x hx i' hi' (by omega)
  len := by
    have := h.len
    cases u <;> simp <;> omega
theorem Mg.right {u : Bool} {a b v : List Int} {i j : Nat} (h : Mg u a b v i j) (hb : b.Pairwise (· < ·)) (hj : j < b.length) (ha : ∀ (i' : Nat) (h : i' < a.length), i ≤ i' → b[j] < a[i']) : Mg u a b (if u = true then v ++ [b[j]] else v) i (j + 1) := (h.swap.left hb hj ha).swap
theorem Mg.both {u : Bool} {a b v : List Int} {i j : Nat} (h : Mg u a b v i j) (ha : a.Pairwise (· < ·)) (hb : b.Pairwise (· < ·)) (hi : i < a.length) (hj : j < b.length) (e : a[i] = b[j]) : Mg u a b (v ++ [a[i]]) (i + 1) (j + 1) where
  hi := hi
  hj := hj
  rise := rise_snoc h.rise (h.below ha hi)
  mem := fun x => by
    rw [inTo_succ hi, inTo_succ hj, List.mem_append, List.mem_singleton, h.mem x, ← e]
    cases u with
    | true => simp only [if_true]; constructor
              · rintro ((h1 | h1) | h1)
                · exact .inl (.inl h1)
                · exact .inr (.inl h1)
                · exact .inl (.inr h1.symm)
              · rintro ((h1 | h1) | (h1 | h1))
                · exact .inl (.inl h1)
                · exact .inr h1.symm
                · exact .inl (.inr h1)
                · exact .inr h1.symm
    | false =>
      simp only [Bool.false_eq_true, if_false]
      constructor
      · rintro (⟨h1, h2⟩ | h1)
        · exact ⟨.inl h1, .inl h2⟩
        · exact ⟨.inr h1.symm, .inr h1.symm⟩
      · rintro ⟨h1 | h1, h2 | h2⟩
        · exact .inl ⟨h1, h2⟩
        · exact .inr h2.symm
        · exact .inr h1.symm
        · exact .inr h1.symm
  ab := fun x hx j' hj' hjj => by
    rcases (inTo_succ hi x).1 hx with h1 | h1
    · exact h.ab x h1 j' hj' (by omega)
    · subst h1; rw [e]; exact List.pairwise_iff_getElem.1 hb j j' hj hj' (by omega)
  ba := fun x hx i' hi' hii => by
    rcases (inTo_succ hj x).1 hx with h1 | h1
    · exact h.ba x h1 i' hi' (by omega)
    · subst h1; rw [← e]; exact List.pairwise_iff_getElem.1 ha i i' hi hi' (by omega)
  len := by have := h.len; simp; omega
theorem first_least {b : List Int} (hb : b.Pairwise (· < ·)) {j : Nat} {y : Int} (h : ∀ h : j < b.length, y < b[j]) : ∀ (j' : Nat) (h : j' < b.length), j ≤ j' → y < b[j'] := by
  intro j' hj' hjj
  have h1 := h (by omega)
  rcases Nat.lt_or_ge j j' with h2 | h2
  · have := List.pairwise_iff_getElem.1 hb j j' (by omega) hj' h2; omega
  · obtain rfl : j = j' := by omega
    exact h1
theorem merged_ev (u : Bool) (a b : List Int) (ha : a.Pairwise (· < ·)) (hb : b.Pairwise (· < ·)) (la : a.length ≤ 1000000) (lb : b.length ≤ 1000000) :
    ∃ v, Mg u a b v a.length b.length ∧ EvS (fun k => graph_merged.g k a b (if u = true then 1 else 2)) (some v) := by
  unfold graph_merged.g
  obtain ⟨r, ⟨v, rfl, hv⟩, hr⟩ := loop_inv (step := fun k self z => graph_merged.l3 a b (if u = true then 1 else 2) self z.1 z.2.1 z.2.2)
    (fun z => ∃ i j : Nat, z.1 = (i : Int) ∧ z.2.1 = (j : Int) ∧ Mg u a b z.2.2 i j) (fun z => (a.length - z.1.toNat) + (b.length - z.2.1.toNat))
    (fun r => ∃ v, r = .out ((a.length : Int), (b.length : Int), v) ∧ Mg u a b v a.length b.length)
    (by
      rintro ⟨_, _, v⟩ ⟨i, j, rfl, rfl, h⟩
      have h : Mg u a b v i j := h
      have hlen := h.len
      have hhi := h.hi
      have hhj := h.hj
      have l1 : limB (v.length + 1) = true := lim_true (by unfold LIM; omega)
      have stepL : ∀ hi : i < a.length, (∀ h : j < b.length, a[i] < b[j]) → ∃ v', Mg u a b v' (i + 1) j ∧ v' = (if u = true then v ++ [a[i]] else v) := fun hi hlt => ⟨_, h.left ha hi (first_least hb hlt), rfl⟩
      have stepR : ∀ hj : j < b.length, (∀ h : i < a.length, b[j] < a[i]) → ∃ v', Mg u a b v' i (j + 1) ∧ v' = (if u = true then v ++ [b[j]] else v) := fun hj hlt => ⟨_, h.right hb hj (first_least ha hlt), rfl⟩
      by_cases hi : i < a.length
      · by_cases hj : j < b.length
        · by_cases hlt : a[i] < b[j]
          · obtain ⟨v', hv', e⟩ := stepL hi (fun _ => hlt)
            refine .inr ⟨(((i + 1 : Nat) : Int), (j : Int), v'), ⟨i + 1, j, rfl, rfl, hv'⟩, by simp only [Int.toNat_natCast]; omega, EvS.of fun k => funext fun self => ?_⟩
            cases u <;> simp [graph_merged.l3, graph_merged.j6, graph_merged.j7, LO.elim, hi, hj, show ¬ (j : Int) = (b.length : Int) by omega, idx_nat, hlt, l1, nat_wrap hi (by omega), e]
          · by_cases hgt : b[j] < a[i]
            · obtain ⟨v', hv', e⟩ := stepR hj (fun _ => hgt)
              refine .inr ⟨((i : Int), ((j + 1 : Nat) : Int), v'), ⟨i, j + 1, rfl, rfl, hv'⟩, by simp only [Int.toNat_natCast]; omega, EvS.of fun k => funext fun self => ?_⟩
              cases u <;> simp [graph_merged.l3, graph_merged.j6, graph_merged.j7, graph_merged.j11, LO.elim, hi, hj, show ¬ (j : Int) = (b.length : Int) by omega, show ¬ (i : Int) = (a.length : Int) by omega, idx_nat, hlt, hgt, l1, nat_wrap hj (by omega), e]
            · refine .inr ⟨(((i + 1 : Nat) : Int), ((j + 1 : Nat) : Int), v ++ [a[i]]), ⟨i + 1, j + 1, rfl, rfl, h.both ha hb hi hj (by omega)⟩, by simp only [Int.toNat_natCast]; omega, EvS.of fun k => funext fun self => ?_⟩
              simp [graph_merged.l3, graph_merged.j6, graph_merged.j7, graph_merged.j11, LO.elim, hi, hj, show ¬ (j : Int) = (b.length : Int) by omega, show ¬ (i : Int) = (a.length : Int) by omega, idx_nat, hlt, hgt, l1, nat_wrap hi (by omega), nat_wrap hj (by omega)]
        · obtain rfl : j = b.length := by omega
          obtain ⟨v', hv', e⟩ := stepL hi (fun h => absurd h hj)
          refine .inr ⟨(((i + 1 : Nat) : Int), (b.length : Int), v'), ⟨i + 1, b.length, rfl, rfl, hv'⟩, by simp only [Int.toNat_natCast]; omega, EvS.of fun k => funext fun self => ?_⟩
          cases u <;> simp [graph_merged.l3, graph_merged.j6, graph_merged.j7, LO.elim, hi, idx_nat, l1, nat_wrap hi (by omega), e]
      · obtain rfl : i = a.length := by omega
        by_cases hj : j < b.length
        · obtain ⟨v', hv', e⟩ := stepR hj (fun h => absurd h hi)
          refine .inr ⟨((a.length : Int), ((j + 1 : Nat) : Int), v'), ⟨a.length, j + 1, rfl, rfl, hv'⟩, by simp only [Int.toNat_natCast]; omega, EvS.of fun k => funext fun self => ?_⟩
          cases u <;> simp [graph_merged.l3, graph_merged.j6, graph_merged.j7, graph_merged.j11, LO.elim, hj, show ¬ (j : Int) = (b.length : Int) by omega, idx_nat, l1, nat_wrap hj (by omega), e]
        · obtain rfl : j = b.length := by omega
          exact .inl ⟨.out ((a.length : Int), (b.length : Int), v), ⟨v, rfl, h⟩, EvS.of fun k => funext fun self => by simp [graph_merged.l3, graph_merged.j6, LO.elim]⟩)
    (0, 0, []) ⟨0, 0, rfl, rfl, Mg.start u a b⟩
  exact ⟨v, hv, EvS.bind hr (EvS.const _)⟩
def orL (a b : List Int) : List Int := Lib.compact (isort (a ++ b))
def andL (a b : List Int) : List Int := a.filter fun x => decide (x ∈ b)
theorem Mg.or {a b v : List Int} (h : Mg true a b v a.length b.length) : v = orL a b := by
  obtain ⟨h1, h2⟩ := sorted_spec (a ++ b)
  refine rise_unique _ _ h.rise h1 fun x => ?_
  rw [h.mem, orL, h2, if_pos rfl, inTo_all, inTo_all, List.mem_append]
theorem Mg.and {a b v : List Int} (ha : a.Pairwise (· < ·)) (h : Mg false a b v a.length b.length) : v = andL a b := by
  refine rise_unique _ _ h.rise (ha.filter _) fun x => ?_
  rw [h.mem, if_neg (by simp), inTo_all, inTo_all, andL, List.mem_filter, decide_eq_true_eq]
theorem orL_mem (a b : List Int) (x : Int) : x ∈ orL a b ↔ x ∈ a ∨ x ∈ b := by rw [orL, (sorted_spec _).2, List.mem_append]
theorem orL_rise (a b : List Int) : (orL a b).Pairwise (· < ·) := (sorted_spec _).1
theorem andL_mem (a b : List Int) (x : Int) : x ∈ andL a b ↔ x ∈ a ∧ x ∈ b := by rw [andL, List.mem_filter, decide_eq_true_eq]
theorem andL_rise {a : List Int} (b : List Int) (ha : a.Pairwise (· < ·)) : (andL a b).Pairwise (· < ·) := ha.filter _
theorem orL_len (a b : List Int) : (orL a b).length ≤ a.length + b.length := by
  have := compact_len (a ++ b)
  rw [List.length_append] at this
  exact this
theorem andL_len (a b : List Int) : (andL a b).length ≤ a.length := List.length_filter_le ..
/-- Parts that rise. -/
structure Up (q : Pt) : Prop where
  r1 : q.1.Pairwise (· < ·)
  r2 : q.2.Pairwise (· < ·)
  l1 : q.1.length ≤ 100000
  l2 : q.2.length ≤ 100000
def orP (p q : Pt) : Pt := (orL p.1 q.1, orL p.2 q.2)
def andP (p q : Pt) : Pt := (andL p.1 q.1, andL p.2 q.2)
theorem or_ev {p q : Pt} (hp : Up p) (hq : Up q) : EvS (fun k => graph_Or.g k p q) (some (orP p q)) := by
  unfold graph_Or.g orP
  obtain ⟨v, h1, h2⟩ := merged_ev true p.1 q.1 hp.r1 hq.r1 (by have := hp.l1; omega) (by have := hq.l1; omega)
  obtain ⟨v', h3, h4⟩ := merged_ev true p.2 q.2 hp.r2 hq.r2 (by have := hp.l2; omega) (by have := hq.l2; omega)
  refine EvS.bind h2 (EvS.bind h4 ?_)
  rw [← h1.or, ← h3.or]; exact EvS.const _
theorem and_ev {p q : Pt} (hp : Up p) (hq : Up q) : EvS (fun k => graph_And.g k p q) (some (andP p q)) := by
  unfold graph_And.g andP
  obtain ⟨v, h1, h2⟩ := merged_ev false p.1 q.1 hp.r1 hq.r1 (by have := hp.l1; omega) (by have := hq.l1; omega)
  obtain ⟨v', h3, h4⟩ := merged_ev false p.2 q.2 hp.r2 hq.r2 (by have := hp.l2; omega) (by have := hq.l2; omega)
  refine EvS.bind h2 (EvS.bind h4 ?_)
  rw [← h1.and hp.r1, ← h3.and hp.r2]; exact EvS.const _
theorem within_ev {p q : Pt} (hp : Up p) (hq : Up q) : EvS (fun k => graph_Within.g k p q) (some (decide (andP p q = p))) := by
  unfold graph_Within.g
  refine EvS.bind (and_ev hp hq) ?_
  refine EvS.bind (same_ev _ _ (by have := andL_len p.1 q.1; have := hp.l1; simp only [andP]; omega) (by have := andL_len p.2 q.2; have := hp.l2; simp only [andP]; omega)) ?_
  exact EvS.const _
theorem andL_id {a b : List Int} : andL a b = a ↔ ∀ x ∈ a, x ∈ b := by simp [andL, List.filter_eq_self]
theorem within_iff {p q : Pt} : andP p q = p ↔ (∀ x ∈ p.1, x ∈ q.1) ∧ ∀ x ∈ p.2, x ∈ q.2 := by
  rw [Prod.ext_iff]; simp only [andP, andL_id]

/-! ### an edge dropped -/
def dropP (q : Pt) (d : Int) : Pt := (q.1, q.2.filter fun x => !decide (x = d))
theorem clone_eq (k : Nat) {l : List Int} (h : l.length ≤ 1000000) : slices_Clone.g k l = some l := by simp [slices_Clone.g, lim_true (show l.length ≤ LIM by unfold LIM; omega)]
theorem index_ev (l : List Int) (d : Int) (hl : l.length ≤ 1000000) (g : Int → Tup [(.int .i64)] → Option (Bool × Int)) (hg : ∀ s x, g s (x, ()) = some (decide (x = s), s)) :
    ∃ i : Int, ((i = -1 ∧ d ∉ l) ∨ ∃ j : Nat, i = j ∧ j < l.length ∧ l.getD j 0 = d ∧ d ∉ l.take j) ∧ EvS (fun k => slices_IndexFunc.g k Int g d l) (some (i, d)) := by
  unfold slices_IndexFunc.g
  obtain ⟨r, hq, hr⟩ := count_inv (step := fun k self z => slices_IndexFunc.l2 Int g l self z.1 z.2) l.length (fun i s => s = d ∧ d ∉ l.take i) (fun r => match r with | .out z => z.2 = d ∧ d ∉ l | .ret z => z.2 = d ∧ ∃ j : Nat, z.1 = j ∧ j < l.length ∧ l.getD j 0 = d ∧ d ∉ l.take j | .ex _ => False)
    (fun s hJ => ⟨.out ((l.length : Int), s), by simpa using hJ, EvS.of fun k => funext fun self => by simp [slices_IndexFunc.l2]⟩)
    (fun i s hi hJ => by
      obtain ⟨rfl, hJ⟩ := hJ
      by_cases h : l[i] = s
      · exact .inl ⟨.ret ((i : Int), s), ⟨rfl, i, rfl, hi, by simp [hi, h], hJ⟩, EvS.of fun k => funext fun self => by simp [slices_IndexFunc.l2, hi, idx_nat, hg, h]⟩
      · exact .inr ⟨s, ⟨rfl, by rw [List.take_succ_eq_append_getElem hi, List.mem_append, List.mem_singleton]; exact fun h1 => h1.elim hJ (fun h1 => h h1.symm)⟩, EvS.of fun k => funext fun self => by simp [slices_IndexFunc.l2, hi, idx_nat, hg, h, nat_wrap hi (by omega)]⟩)
    d ⟨rfl, by simp⟩
  cases r with
  | out z => obtain ⟨e, h⟩ := hq; exact ⟨-1, .inl ⟨rfl, h⟩, EvS.bind hr (by simp only [LO.elim, e]; exact EvS.const _)⟩
  | ret z => obtain ⟨e, j, h1, h2, h3, h4⟩ := hq; exact ⟨z.1, .inr ⟨j, h1, h2, h3, h4⟩, EvS.bind hr (by simp only [LO.elim]; rw [← e]; exact EvS.const _)⟩
  | ex _ => exact hq.elim
theorem keep_all {l : List Int} {d : Int} (h : d ∉ l) : (l.filter fun x => !decide (x = d)) = l := by
  rw [List.filter_eq_self]
  intro x hx
  have : x ≠ d := fun e => h (e ▸ hx)
  simp [this]
theorem delete_ev (l : List Int) (d : Int) (hl : l.length ≤ 1000000) (g : Int → Tup [(.int .i64)] → Option (Bool × Int)) (hg : ∀ s x, g s (x, ()) = some (decide (x = s), s)) :
    EvS (fun k => slices_DeleteFunc.g k Int g d l) (some (l.filter fun x => !decide (x = d), d)) := by
  unfold slices_DeleteFunc.g
  obtain ⟨i, hi, hev⟩ := index_ev l d hl (fun s x => (g s (x.1, ())).bind fun y => some (y.1, y.2)) (fun s x => by simp [hg])
  refine EvS.bind hev ?_
  rcases hi with ⟨rfl, hm⟩ | ⟨j, rfl, hj, hd, hm⟩
  · simp only [decide_true, cond_true, keep_all hm]; exact EvS.const _
  · simp only [show ¬ (j : Int) = -1 by omega, decide_false, cond_false]
    have hd : l[j] = d := by simpa [hj] using hd
    rw [nat_wrap hj (by omega)]
    obtain ⟨r, ⟨i, v, rfl, hv⟩, hr⟩ := loop_inv (step := fun k self z => slices_DeleteFunc.l5 Int g self z.1.1 z.1.2.1 z.1.2.2 z.2)
      (fun z => ∃ i m : Nat, z.1.1 = (m : Int) ∧ z.1.2.1 = (i : Int) ∧ z.2 = d ∧ i < m ∧ m ≤ l.length ∧ z.1.2.2.length = l.length ∧ z.1.2.2.take i = (l.take m).filter (fun x => !decide (x = d)) ∧ z.1.2.2.drop m = l.drop m)
      (fun z => l.length - z.1.1.toNat)
      (fun r => ∃ (i : Nat) (v : List Int), r = .out (((l.length : Int), (i : Int), v), d) ∧ i < l.length ∧ v.length = l.length ∧ v.take i = l.filter fun x => !decide (x = d))
      (by
        rintro ⟨⟨_, _, v⟩, z⟩ ⟨i, m, rfl, rfl, e3, him, hml, hvl, ht, hdr⟩
        simp only at hvl ht hdr e3
        have e3 := e3.symm
        subst e3
        rcases Nat.lt_or_ge m l.length with hm | hm
        · have hvm : v[m]'(by omega) = l[m] := by
            have h1 : v.drop m = v[m]'(by omega) :: v.drop (m + 1) := List.drop_eq_getElem_cons (by omega)
            rw [hdr, List.drop_eq_getElem_cons hm] at h1
            exact (List.cons.inj h1).1.symm
          have hvd : v.drop (m + 1) = l.drop (m + 1) := by
            have h1 : v.drop m = v[m]'(by omega) :: v.drop (m + 1) := List.drop_eq_getElem_cons (by omega)
            rw [hdr, List.drop_eq_getElem_cons hm] at h1
            exact (List.cons.inj h1).2.symm
          have im : idx v (m : Int) = some l[m] := by rw [idx_nat v m (by omega), hvm]
          have ii : idx v (i : Int) = some (v[i]'(by omega)) := idx_nat v i (by omega)
          have htk : (l.take (m + 1)).filter (fun x => !decide (x = d)) = (l.take m).filter (fun x => !decide (x = d)) ++ if l[m] = d then [] else [l[m]] := by
            rw [List.take_succ_eq_append_getElem hm, List.filter_append]
            by_cases h : l[m] = d <;> simp [h]
          by_cases h : l[m] = d
          · refine .inr ⟨((((m + 1 : Nat) : Int), (i : Int), v), d), ⟨i, m + 1, rfl, rfl, rfl, by omega, hm, hvl, by rw [htk, ht]; simp [h], hvd⟩, by simp only [Int.toNat_natCast]; omega, EvS.of fun k => funext fun self => ?_⟩
            simp [slices_DeleteFunc.l5, hvl, hm, im, hg, h, nat_wrap hm (by omega)]
          · refine .inr ⟨((((m + 1 : Nat) : Int), ((i + 1 : Nat) : Int), v.set i l[m]), d), ⟨i + 1, m + 1, rfl, rfl, rfl, by omega, hm, by simpa using hvl, ?_, ?_⟩, by simp only [Int.toNat_natCast]; omega, EvS.of fun k => funext fun self => ?_⟩
            · simp only
              rw [htk, ← ht, if_neg h, List.take_succ_eq_append_getElem (by simp; omega), List.getElem_set_self, List.take_set_of_le (Nat.le_refl _)]
            · simp only
              rw [List.drop_set_of_lt (by omega), hvd]
            · simp [slices_DeleteFunc.l5, hvl, hm, im, ii, hg, h, nat_wrap hm (by omega), nat_wrap (show i < l.length by omega) (by omega)]
        · obtain rfl : m = l.length := by omega
          exact .inl ⟨.out (((l.length : Int), (i : Int), v), d), ⟨i, v, rfl, him, hvl, by rw [ht, List.take_length]⟩, EvS.of fun k => funext fun self => by simp [slices_DeleteFunc.l5, hvl]⟩)
      ((((j : Int) + 1, (j : Int), l), d)) ⟨j, j + 1, rfl, rfl, rfl, by omega, hj, rfl, by
        simp only
        rw [List.take_succ_eq_append_getElem hj, List.filter_append, keep_all hm]; simp [hd], rfl⟩
    refine EvS.bind hr ?_
    refine EvS.of fun k => ?_
    obtain ⟨h1, h2, h3⟩ := hv
    have c1 : cut v (i : Int) (v.length : Int) = some (v.drop i) := by simp [cut, show i ≤ v.length by omega]
    have c2 : ∀ (y : List Int), cut (v.take i ++ y) 0 (i : Int) = some (v.take i) := fun y => by
      simp [cut, show (i : Int) ≤ ((i : Int) + y.length) by omega, show min i v.length = i by omega, List.take_append_of_le_length, show i ≤ (v.take i).length by simp; omega]
    simp [LO.elim, c1, List.append_assoc, c2]
    exact h3
theorem drop_ev (q : Pt) (d : Int) (hq : Up q) : EvS (fun k => graph_Drop.g k q d) (some (dropP q d)) := by
  unfold graph_Drop.g dropP
  have h1 := hq.l1
  have h2 := hq.l2
  refine EvS.bind (EvS.of fun k => clone_eq k (by omega)) ?_
  refine EvS.bind (y := (q.2.filter fun x => !decide (x = d), d)) ?_ ?_
  · obtain ⟨K, hK⟩ := delete_ev q.2 d (by omega) (fun s x => some (decide (x.1 = s), s)) (fun s x => rfl)
    exact ⟨K, fun k hk => hK k hk⟩
  · exact EvS.bind (EvS.of fun k => clone_eq k (by omega)) (EvS.const _)
theorem dropP_up {q : Pt} {d : Int} (hq : Up q) : Up (dropP q d) := ⟨hq.r1, hq.r2.filter _, hq.l1, Nat.le_trans (List.length_filter_le ..) hq.l2⟩
end Go.Proofs.Ytbgefphoochgcaa.FX
