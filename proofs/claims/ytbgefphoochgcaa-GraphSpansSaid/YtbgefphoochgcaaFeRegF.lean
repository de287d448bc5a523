/- FE, part 33: a region in whatever order is drawn gives the text's order's state. -/
import Derived.Test.YtbgefphoochgcaaFeRegE
namespace Go.Proofs.Ytbgefphoochgcaa.FE
open Go
set_option linter.unusedVariables false
set_option linter.unusedSimpArgs false
section
variable {Ω : Type} {C : CloRep Ω} {P : Program} {T : Tab} {N : Nat} {Φ : Env Ω}
variable {rc : Nat} {used : Id → Prop}

def lst (listed : Array Bool) (i : Nat) : Bool := listed.getD i false
theorem getD_tf {listed : Array Bool} {i : Nat} (h : i < listed.size) : listed.getD i true = lst listed i := by
  simp [lst, h]
theorem lst_set {listed : Array Bool} {i j : Nat} (h : i < listed.size) : lst (listed.setIfInBounds i true) j = (if j = i then true else lst listed j) := by
  simp only [lst, Array.getD_eq_getD_getElem?, Array.getElem?_setIfInBounds]
  by_cases e : i = j
  · subst e; simp [h]
  · rw [if_neg e, if_neg (fun h => e h.symm)]
/-- How many are to come. -/
def todo (listed : Array Bool) : Nat → Nat
  | 0 => 0
  | n + 1 => (if lst listed n then 0 else 1) + todo listed n
theorem todo_zero {listed : Array Bool} : ∀ {n : Nat}, todo listed n = 0 → ∀ i, i < n → lst listed i = true
  | 0, _, i, h => by omega
  | n + 1, h, i, hi => by
    simp only [todo] at h
    by_cases e : i = n
    · subst e
      cases hl : lst listed i with
      | true => rfl
      | false => rw [hl] at h; simp at h
    · exact todo_zero (n := n) (by omega) i (by omega)
theorem todo_set {listed : Array Bool} {i : Nat} (h : i < listed.size) (hl : lst listed i = false) : ∀ {n : Nat}, (i < n → todo (listed.setIfInBounds i true) n + 1 = todo listed n) ∧ (n ≤ i → todo (listed.setIfInBounds i true) n = todo listed n)
  | 0 => ⟨fun h => by omega, fun _ => rfl⟩
  | n + 1 => by
    obtain ⟨h1, h2⟩ := todo_set h hl (n := n)
    simp only [todo, lst_set h]
    constructor
    · intro hi
      by_cases e : n = i
      · subst e
        rw [if_pos rfl, hl, h2 (Nat.le_refl _)]
        simp; omega
      · rw [if_neg e]
        have := h1 (by omega)
        omega
    · intro hi
      rw [if_neg (show ¬ n = i by omega), h2 (by omega)]
theorem lst_none {n i : Nat} : lst (Array.replicate n false) i = false := by
  rw [lst, Array.getD_eq_getD_getElem?]
  cases h : (Array.replicate n false)[i]? with
  | none => rfl
  | some b =>
    rw [Array.getElem?_replicate] at h
    split at h
    · cases h; rfl
    · cases h
theorem todo_all {n : Nat} : ∀ {m : Nat}, m ≤ n → todo (Array.replicate n false) m = m
  | 0, _ => rfl
  | m + 1, h => by
    have : lst (Array.replicate n false) m = false := lst_none
    simp only [todo, this]
    rw [todo_all (n := n) (m := m) (by omega)]
    simp; omega
section
variable {ops : Array Oper} {listed : Array Bool}
theorem mem_ready {i : Nat} (hs : listed.size = ops.size) : i ∈ Region.ready .any ops listed ↔ i < ops.size ∧ lst listed i = false ∧ ∀ o, ops[i]? = some o → ∀ e ∈ o.after.toList, Region.binds .any e = true → lst listed e.on = true := by
  unfold Region.ready
  rw [List.mem_filter, List.mem_range]
  constructor
  · rintro ⟨h1, h2⟩
    rw [Bool.and_eq_true] at h2
    refine ⟨h1, ?_, fun o ho e he hb => ?_⟩
    · have := h2.1
      rw [getD_tf (by omega)] at this
      simpa using this
    · have h3 := h2.2
      simp only [ho, Option.map_some, Option.getD_some, Array.all_eq_true'] at h3
      have h4 := h3 e (by simpa using he)
      simp only [hb, Bool.not_true, Bool.false_or] at h4
      exact h4
  · rintro ⟨h1, h2, h3⟩
    refine ⟨h1, ?_⟩
    rw [Bool.and_eq_true, getD_tf (by omega), h2]
    refine ⟨rfl, ?_⟩
    simp only [Array.getElem?_eq_getElem h1, Option.map_some, Option.getD_some, Array.all_eq_true']
    intro e he
    cases hb : Region.binds .any e with
    | false => rfl
    | true => exact h3 _ (Array.getElem?_eq_getElem h1) e (by simpa using he) hb
theorem ready_nil (hb : backB 0 ops.toList = true) (hs : listed.size = ops.size) (h : Region.ready .any ops listed = []) : ∀ n i, i < n → i < ops.size → lst listed i = true := by
  intro n
  induction n with
  | zero => intro i h; omega
  | succ n ih =>
    intro i hi hi2
    cases hl : lst listed i with
    | true => rfl
    | false =>
      have : i ∈ Region.ready .any ops listed := (mem_ready hs).2 ⟨hi2, hl, fun o ho e he hbe => by
        have := backB_spec hb i o (by simpa using ho) e he hbe
        exact ih e.on (by omega) (by omega)⟩
      rw [h] at this; cases this
end
def usedL (used : Id → Prop) (rc : Nat) (L : Nat → Bool) : Id → Prop := fun id => used id ∨ (id.1 = rc ∧ L id.2.1 = true)
theorem any_ok (hT : TabOk P T) (hΦ : EnvOk P C Φ) {H : Hints} {rid : Nat} {all : Array Oper} (hB : ∀ o ∈ all.toList, opB N o = true) {Q : Exit → Act → World → Prop} (hf : FreshR used rc) (hb : backB 0 all.toList = true)
    {R : Nat → List Loc} {W : Nat → List (Loc × AV Ω)} {st0 : S Ω} (hrun : ∀ j o, all.toList[j]? = some o → OpRun T Φ (ownOf H.own rid j) (frzOf H.frz rid j) rc all j o (pile W st0 0 j) (R j) (W j))
    (hind : ∀ i j, i < all.size → j < all.size → i ≠ j → orderedB (Region.before all) i j = true ∨ Apart ⟨i, R i, (W i).map (·.1)⟩ ⟨j, R j, (W j).map (·.1)⟩) {st' : S Ω} (hend : ∀ l, S.get st' l = S.get (pile W st0 0 all.size) l) :
    ∀ (fuel : Nat) (listed : Array Bool) {G : Ghost} {a : Act} {w : World} {st : S Ω}, listed.size = all.size → todo listed all.size ≤ fuel → (∀ i o, lst listed i = true → all[i]? = some o → ∀ e ∈ o.after.toList, Region.binds .any e = true → lst listed e.on = true) →
      (∀ l, S.get st l = vl (lst listed) W st0 l all.size) → Rep C G N (usedL used rc (lst listed)) st a w →
      (∀ G' a' w', Fr G.ρ w G'.ρ w' → Rep C G' N (usedN used rc) st' a' w' → Q .normal a' w') → wpAny P .any all Q fuel listed a w := by
  have done : ∀ (listed : Array Bool) {G : Ghost} {a : Act} {w : World} {st : S Ω}, (∀ i, i < all.size → lst listed i = true) → (∀ l, S.get st l = vl (lst listed) W st0 l all.size) → Rep C G N (usedL used rc (lst listed)) st a w →
      (∀ G' a' w', Fr G.ρ w G'.ρ w' → Rep C G' N (usedN used rc) st' a' w' → Q .normal a' w') → Q .normal a w := by
    intro listed G a w st hl hst hr hK
    refine hK G a w (Fr.refl _ _) ((hr.mono ?_).congr fun l => ?_)
    · rintro id (h | ⟨h, _⟩)
      · exact .inl h
      · exact .inr h
    · rw [hend l, pile_vl, hst l]
      exact (vl_congr fun j hj _ => hl j hj).symm
  intro fuel
  induction fuel with
  | zero =>
    intro listed G a w st hs ht hc hst hr hK
    have hl := todo_zero (Nat.le_zero.1 ht)
    refine ⟨?_, done listed hl hst hr hK⟩
    cases hrd : Region.ready .any all listed with
    | nil => rfl
    | cons x r =>
      have hx : x ∈ Region.ready .any all listed := by rw [hrd]; simp
      obtain ⟨h1, h2, _⟩ := (mem_ready hs).1 hx
      rw [hl x h1] at h2; cases h2
  | succ fuel ih =>
    intro listed G a w st hs ht hc hst hr hK
    refine ⟨fun h => done listed (fun i hi => ready_nil hb hs h (i + 1) i (by omega) hi) hst hr hK, fun i hi => ?_⟩
    obtain ⟨h1, h2, h3⟩ := (mem_ready hs).1 hi
    have ho := Array.getElem?_eq_getElem h1
    have hed := h3 _ ho
    have hbef : ∀ j, ((Region.before all).getD i 0).testBit j = true → lst listed j = true := fun j hj =>
      before_closed (L := fun j => lst listed j = true) hc (i + 1) i j _ (by omega) ho hed hj
    -- what an operation that has been listed, or is to come, has to do with this one
    have hord : ∀ j, j < all.size → j ≠ i → (lst listed j = true → i < j → ¬ orderedB (Region.before all) i j = true) ∧ (lst listed j = false → j < i → ¬ orderedB (Region.before all) i j = true) := by
      intro j hj hne
      refine ⟨fun hl hlt h => ?_, fun hl hlt h => ?_⟩
      · simp only [orderedB, Bool.or_eq_true] at h
        rcases h with h | h
        · have := before_lt hb (i + 1) i j (by omega) h; omega
        · have := before_closed (L := fun j => lst listed j = true) hc (j + 1) j i _ (by omega) (Array.getElem?_eq_getElem hj) (hc j _ hl (Array.getElem?_eq_getElem hj)) h
          rw [h2] at this; cases this
      · simp only [orderedB, Bool.or_eq_true] at h
        rcases h with h | h
        · rw [hbef j h] at hl; cases hl
        · have := before_lt hb (j + 1) j i (by omega) h; omega
    have hap : ∀ j, j < all.size → j ≠ i → ((lst listed j = true ∧ i < j) ∨ (lst listed j = false ∧ j < i)) → Apart ⟨i, R i, (W i).map (·.1)⟩ ⟨j, R j, (W j).map (·.1)⟩ := by
      intro j hj hne h
      rcases hind i j h1 hj (fun e => hne e.symm) with h' | h'
      · rcases h with ⟨k1, k2⟩ | ⟨k1, k2⟩
        · exact absurd h' ((hord j hj hne).1 k1 k2)
        · exact absurd h' ((hord j hj hne).2 k1 k2)
      · exact h'
    have hread : ∀ l ∈ R i, S.get st l = S.get (pile W st0 0 i) l := by
      intro l hl
      rw [hst l, pile_vl, vl_cut (k := i) (by omega) fun j k1 k2 k3 k4 => ?_]
      · refine vl_congr fun j hj hw => ?_
        cases hlj : lst listed j with
        | true => rfl
        | false => exact absurd (inL_iff.1 hw) ((hap j (by omega) (by omega) (.inr ⟨hlj, hj⟩)).rw l hl)
      · have hne : j ≠ i := by rintro rfl; rw [h2] at k3; cases k3
        exact (hap j k2 hne (.inl ⟨k3, by omega⟩)).rw l hl (inL_iff.1 k4)
    have hop := (hrun i all[i] (by rw [Array.getElem?_toList]; exact ho)).congr (st' := st) hread
    have hfr : FreshAt (usedL used rc (lst listed)) rc i := by
      rintro s (h | ⟨_, h⟩)
      · exact hf i s h
      · rw [h2] at h; cases h
    refine step_ok hT hΦ ho (hB _ (by simp)) hr hfr hop (fun G' a' w' hfr' hrep => ?_)
    have hi' : i < listed.size := by omega
    refine ih (listed.setIfInBounds i true) (st := W i ++ st) (by simp [hs]) ?_ ?_ (fun l => ?_) (hrep.mono ?_) (fun G2 a2 w2 k1 k2 => hK G2 a2 w2 (hfr'.trans k1) k2)
    · have := (todo_set hi' h2 (n := all.size)).1 h1
      omega
    · intro k o hk hok e he hbe
      rw [lst_set hi'] at hk ⊢
      by_cases ek : k = i
      · subst ek
        split
        · rfl
        · exact h3 o hok e he hbe
      · rw [if_neg ek] at hk
        split
        · rfl
        · exact hc k o hk hok e he hbe
    · rw [get_append]
      split
      · rename_i hw
        rw [vl_cut (k := i + 1) (by omega) fun j k1 k2 k3 k4 => ?_]
        · simp only [vl]
          rw [if_pos ⟨by rw [lst_set hi', if_pos rfl], hw⟩]
        · rw [lst_set hi', if_neg (by omega)] at k3
          exact (hap j k2 (by omega) (.inl ⟨k3, by omega⟩)).ww l (inL_iff.1 hw) (inL_iff.1 k4)
      · rename_i hw
        rw [hst l]
        refine vl_congr fun j hj hwj => ?_
        rw [lst_set hi']
        by_cases ej : j = i
        · subst ej; exact absurd hwj hw
        · rw [if_neg ej]
    · rintro id ((h | ⟨k1, k2⟩) | ⟨s, rfl⟩)
      · exact .inl h
      · refine .inr ⟨k1, ?_⟩
        rw [lst_set hi']
        split
        · rfl
        · exact k2
      · exact .inr ⟨rfl, by rw [lst_set hi', if_pos rfl]⟩
/-- A region whose order is drawn. -/
theorem region_any (hT : TabOk P T) (hΦ : EnvOk P C Φ) {H : Hints} {rid : Nat} {all : Array Oper} (hB : ∀ o ∈ all.toList, opB N o = true) {Q : Exit → Act → World → Prop} (hf : FreshR used rc)
    {G : Ghost} {st st' : S Ω} {a : Act} {w : World} {log' : List LogRow} (ht : Trace T Φ H rid rc all all.toList 0 st [] st' log') (hb : backB 0 all.toList = true) (hi : indepAll (Region.before all) log' = true) (hr : Rep C G N used st a w)
    (hK : ∀ G' a' w', Fr G.ρ w G'.ρ w' → Rep C G' N (usedN used rc) st' a' w' → Q .normal a' w') : wpAny P .any all Q all.size (Array.replicate all.size false) a { w with drawn := w.drawn + 1 } := by
  obtain ⟨R, W, h1, h2, h3, _⟩ := trace_fun ht
  obtain ⟨hr', hfr⟩ := hr.drawn (w.drawn + 1)
  have hl0 : ∀ i, lst (Array.replicate all.size false) i = false := fun i => lst_none
  refine any_ok hT hΦ hB (R := R) (W := W) (st0 := st) (H := H) (rid := rid) hf hb (fun j o ho => by have := h1 j o ho; rwa [Nat.zero_add] at this) (fun i j k1 k2 hne => ?_) (st' := st') (fun l => by rw [h2 l, Array.length_toList]) all.size (Array.replicate all.size false) (by simp) (by rw [todo_all (Nat.le_refl _)]; exact Nat.le_refl _) (fun i o h => by rw [hl0] at h; cases h) (fun l => ?_) (hr'.mono fun _ h => .inl h) (fun G' a' w' k1 k2 => hK G' a' w' (hfr.trans k1) k2)
  · have m1 := h3 i (by simpa using k1)
    have m2 := h3 j (by simpa using k2)
    rw [Nat.zero_add] at m1 m2
    rcases indepAll_spec hi _ m1 _ m2 with h | h
    · exact absurd (congrArg LogRow.i h) hne
    · exact h
  · rw [vl_cut (k := 0) (by omega) fun j _ _ h => (by rw [hl0] at h; cases h)]
    rfl
end
end Go.Proofs.Ytbgefphoochgcaa.FE
