/- FE, part 32: regions, in whatever order is drawn: done. -/
import Derived.Test.YtbgefphoochgcaaFeRegD
namespace Go.Proofs.Ytbgefphoochgcaa.FE
open Go
set_option linter.unusedVariables false
set_option linter.unusedSimpArgs false
section
variable {Ω : Type} {C : CloRep Ω} {P : Program} {T : Tab} {N : Nat} {Φ : Env Ω}
variable {rc : Nat} {used : Id → Prop}

structure Apart (x y : LogRow) : Prop where
  wr : ∀ l ∈ x.ws, l ∉ y.rs
  ww : ∀ l ∈ x.ws, l ∉ y.ws
  rw : ∀ l ∈ x.rs, l ∉ y.ws
theorem apartL_spec : ∀ {A B : List Loc}, apartL A B = true → ∀ l ∈ A, l ∉ B
  | [], B, _, l, h => by cases h
  | a :: r, B, h, l, hl => by
    simp only [apartL] at h
    split at h
    · cases h
    · rename_i hn
      rcases List.mem_cons.1 hl with rfl | hl
      · intro hB
        rw [inL_iff.2 hB] at hn; cases hn
      · exact apartL_spec h l hl
theorem apartR_spec {x y : LogRow} (h : apartR x y = true) : Apart x y := by
  simp only [apartR, Bool.and_eq_true] at h
  exact ⟨apartL_spec h.1, apartL_spec h.2.1, apartL_spec h.2.2⟩
theorem Apart.symm {x y : LogRow} (h : Apart x y) : Apart y x := ⟨fun l h1 h2 => h.rw l h2 h1, fun l h1 h2 => h.ww l h2 h1, fun l h1 h2 => h.wr l h2 h1⟩
theorem orderedB_symm {bef : Array Nat} {i j : Nat} (h : orderedB bef i j = true) : orderedB bef j i = true := by
  simp only [orderedB, Bool.or_eq_true] at h ⊢
  exact h.symm
theorem indep1_spec {bef : Array Nat} {x : LogRow} : ∀ {log : List LogRow}, indep1 bef x log = true → ∀ y ∈ log, orderedB bef x.i y.i = true ∨ Apart x y
  | [], _, y, h => by cases h
  | z :: r, h, y, hy => by
    simp only [indep1] at h
    split at h
    · rename_i hz
      rcases List.mem_cons.1 hy with rfl | hy
      · rw [Bool.or_eq_true] at hz
        exact hz.imp id apartR_spec
      · exact indep1_spec h y hy
    · cases h
theorem indepAll_spec {bef : Array Nat} : ∀ {log : List LogRow}, indepAll bef log = true → ∀ x ∈ log, ∀ y ∈ log, x = y ∨ orderedB bef x.i y.i = true ∨ Apart x y
  | [], _, x, h, _, _ => by cases h
  | z :: r, h, x, hx, y, hy => by
    simp only [indepAll] at h
    split at h
    · rename_i hz
      rcases List.mem_cons.1 hx with ex | hx'
      · rcases List.mem_cons.1 hy with ey | hy'
        · exact .inl (ex.trans ey.symm)
        · subst ex; exact .inr (indep1_spec hz y hy')
      · rcases List.mem_cons.1 hy with ey | hy'
        · subst ey; exact .inr ((indep1_spec hz x hx').imp orderedB_symm Apart.symm)
        · exact indepAll_spec h x hx' y hy'
    · cases h
/-- The state behind some operations. -/
def pile (W : Nat → List (Loc × AV Ω)) (st : S Ω) (i : Nat) : Nat → S Ω
  | 0 => st
  | j + 1 => W (i + j) ++ pile W st i j
theorem trace_fun {H : Hints} {rid : Nat} {all : Array Oper} {r : List Oper} {i : Nat} {st st' : S Ω} {log log' : List LogRow} (h : Trace T Φ H rid rc all r i st log st' log') :
    ∃ (R : Nat → List Loc) (W : Nat → List (Loc × AV Ω)), (∀ j o, r[j]? = some o → OpRun T Φ (ownOf H.own rid (i + j)) (frzOf H.frz rid (i + j)) rc all (i + j) o (pile W st i j) (R (i + j)) (W (i + j))) ∧
      (∀ l, S.get st' l = S.get (pile W st i r.length) l) ∧ (∀ j, j < r.length → (⟨i + j, R (i + j), (W (i + j)).map (·.1)⟩ : LogRow) ∈ log') ∧ ∀ x ∈ log, x ∈ log' := by
  induction h with
  | nil => exact ⟨fun _ => [], fun _ => [], fun j o h => by simp at h, fun l => rfl, fun j h => by simp at h, fun x h => h⟩
  | @cons o r i st rs ws st1 log st' log' h e t ih =>
    obtain ⟨R, W, h1, h2, h3, h4⟩ := ih
    have hp : ∀ j l, S.get (pile (fun k => if k = i then ws else W k) st i (j + 1)) l = S.get (pile W st1 (i + 1) j) l := by
      intro j
      induction j with
      | zero =>
        intro l
        simp only [pile, Nat.add_zero, if_true]
        exact (e l).symm
      | succ j ihj =>
        intro l
        show S.get ((if i + (j + 1) = i then ws else W (i + (j + 1))) ++ pile (fun k => if k = i then ws else W k) st i (j + 1)) l = S.get (W (i + 1 + j) ++ pile W st1 (i + 1) j) l
        rw [if_neg (by omega), show i + (j + 1) = i + 1 + j by omega]
        exact get_app_congr ihj _ l
    refine ⟨fun k => if k = i then rs else R k, fun k => if k = i then ws else W k, fun j o' ho => ?_, fun l => ?_, fun j hj => ?_, fun x hx => h4 x (List.mem_cons_of_mem _ hx)⟩
    · cases j with
      | zero =>
        simp at ho
        subst ho
        simp only [Nat.add_zero, if_true]
        exact h
      | succ j =>
        have h5 := h1 j o' (by simpa using ho)
        simp only [if_neg (show ¬ i + (j + 1) = i by omega)]
        rw [show i + (j + 1) = i + 1 + j by omega]
        exact h5.congr fun l _ => hp j l
    · rw [h2 l, List.length_cons, hp]
    · cases j with
      | zero =>
        simp only [Nat.add_zero, if_true]
        exact h4 _ (by simp)
      | succ j =>
        have h5 := h3 j (by simpa using hj)
        simp only [if_neg (show ¬ i + (j + 1) = i by omega)]
        rw [show i + (j + 1) = i + 1 + j by omega]
        exact h5
/-- What stands at a place behind a set of operations: the last one's that wrote it. -/
def vl (L : Nat → Bool) (W : Nat → List (Loc × AV Ω)) (st : S Ω) (l : Loc) : Nat → AV Ω
  | 0 => S.get st l
  | m + 1 => if L m = true ∧ inL l ((W m).map (·.1)) = true then S.get (W m) l else vl L W st l m
section
variable {W : Nat → List (Loc × AV Ω)} {st : S Ω} {l : Loc} {L L' : Nat → Bool}
theorem pile_vl : ∀ m, S.get (pile W st 0 m) l = vl (fun _ => true) W st l m
  | 0 => rfl
  | m + 1 => by
    simp only [pile, vl, Nat.zero_add, true_and]
    rw [get_append, pile_vl m]
theorem vl_congr : ∀ {m : Nat}, (∀ j, j < m → inL l ((W j).map (·.1)) = true → L j = L' j) → vl L W st l m = vl L' W st l m
  | 0, _ => rfl
  | m + 1, h => by
    simp only [vl]
    rw [vl_congr (m := m) fun j hj => h j (by omega)]
    by_cases hi : inL l ((W m).map (·.1)) = true
    · rw [h m (by omega) hi]
    · simp [hi]
theorem vl_cut {k : Nat} : ∀ {m : Nat}, k ≤ m → (∀ j, k ≤ j → j < m → L j = true → inL l ((W j).map (·.1)) = true → False) → vl L W st l m = vl L W st l k
  | 0, hk, _ => by
    obtain rfl : k = 0 := by omega
    rfl
  | m + 1, hk, h => by
    by_cases e : k = m + 1
    · rw [e]
    · simp only [vl]
      rw [if_neg (fun h' => h m (by omega) (by omega) h'.1 h'.2)]
      exact vl_cut (by omega) fun j h1 h2 => h j h1 (by omega)
end
end
end Go.Proofs.Ytbgefphoochgcaa.FE
