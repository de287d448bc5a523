/- FE, part 29: regions, in the text's order. -/
import Derived.Test.YtbgefphoochgcaaFeOps
import Derived.Orders
namespace Go.Proofs.Ytbgefphoochgcaa.FE
open Go
set_option linter.unusedVariables false
set_option linter.unusedSimpArgs false
section
variable {Ω : Type} {C : CloRep Ω} {P : Program} {T : Tab} {N : Nat} {Φ : Env Ω}
variable {rc i : Nat} {G : Ghost} {used used' : Id → Prop} {st st' ws : S Ω} {a : Act} {w w' : World} {acc rs : List Loc}

/-- One operation of a region: run, or passed over. -/
inductive OpRun (T : Tab) (Φ : Env Ω) (own : Nat) (frz : Bool) (rc : Nat) (all : Array Oper) (i : Nat) (o : Oper) (st : S Ω) : List Loc → List (Loc × AV Ω) → Prop
  | run {rs : List Loc} {ws : List (Loc × AV Ω)} (hg : o.guard = none) (h : (opP T Φ own frz rc i o).Runs st [] rs ws) : OpRun T Φ own frz rc all i o st rs ws
  | yes {rs : List Loc} {ws : List (Loc × AV Ω)} {g : Nat} {want : Bool} {gt : Nat} (hg : o.guard = some (g, want)) (ht : (all[g]?).bind (·.dst) = some gt) (hs : st.get (.tmp gt) = .one (.dat .bool want)) (h : (opP T Φ own frz rc i o).Runs st [.tmp gt] rs ws) : OpRun T Φ own frz rc all i o st rs ws
  | no {g : Nat} {want : Bool} {gt : Nat} (hg : o.guard = some (g, want)) (ht : (all[g]?).bind (·.dst) = some gt) (hs : st.get (.tmp gt) = .one (.dat .bool (!want)) ∨ st.get (.tmp gt) = .tup []) : OpRun T Φ own frz rc all i o st [.tmp gt] (undW o)
theorem OpRun.congr {own : Nat} {frz : Bool} {all : Array Oper} {o : Oper} (h : OpRun T Φ own frz rc all i o st rs ws) (hg : ∀ l ∈ rs, S.get st' l = S.get st l) : OpRun T Φ own frz rc all i o st' rs ws := by
  cases h with
  | run h1 h2 => exact .run h1 (h2.congr hg)
  | yes h1 h2 h3 h4 => exact .yes h1 h2 ((hg _ (Prg.Runs.acc h4 _ (by simp))).trans h3) (h4.congr hg)
  | no h1 h2 h3 => exact .no h1 h2 (by rw [hg _ (by simp)]; exact h3)
/-- A region, in the text's order; what each operation read and wrote. -/
inductive Trace (T : Tab) (Φ : Env Ω) (H : Hints) (rid rc : Nat) (all : Array Oper) : List Oper → Nat → S Ω → List LogRow → S Ω → List LogRow → Prop
  | nil {i : Nat} {st : S Ω} {log : List LogRow} : Trace T Φ H rid rc all [] i st log st log
  | cons {o : Oper} {r : List Oper} {i : Nat} {st : S Ω} {rs : List Loc} {ws : List (Loc × AV Ω)} {st1 : S Ω} {log : List LogRow} {st' : S Ω} {log' : List LogRow} (h : OpRun T Φ (ownOf H.own rid i) (frzOf H.frz rid i) rc all i o st rs ws) (e : ∀ l, S.get st1 l = S.get (ws ++ st) l)
      (t : Trace T Φ H rid rc all r (i + 1) st1 (⟨i, rs, ws.map (·.1)⟩ :: log) st' log') : Trace T Φ H rid rc all (o :: r) i st log st' log'
theorem get_pin {t : Nat} {v : AV Ω} (h : st.get (.tmp t) = v) (l : Loc) : S.get ((.tmp t, v) :: st) l = S.get st l := by
  by_cases e : Loc.tmp t = l
  · subst e; simp [S.get, locB_self, h]
  · simp [S.get, locB_ne e]
theorem get_app_congr {x y : S Ω} (h : ∀ l, S.get x l = S.get y l) (ws : S Ω) (l : Loc) : S.get (ws ++ x) l = S.get (ws ++ y) l := by
  rw [get_append, get_append, h l]
theorem ext_of {st st' ws wx : S Ω} (h : st' = wx ++ (ws ++ st)) : ∃ ws, st' = ws ++ st := ⟨wx ++ ws, by rw [h, List.append_assoc]⟩
theorem ext_of2 {st st' ws wx : S Ω} {p : Loc × AV Ω} (h : st' = wx ++ (ws ++ p :: st)) : ∃ ws, st' = ws ++ st := ⟨wx ++ ws ++ [p], by rw [h]; simp⟩
theorem evOps_trace {R : Type} {H : Hints} {rid : Nat} {all : Array Oper} {res : R} : ∀ (r : List Oper) (i : Nat) (st : S Ω) (log : List LogRow) (k : S Ω → List LogRow → Option R), evOps T Φ H rid rc all r i st log k = some res →
    ∃ st' log', Trace T Φ H rid rc all r i st log st' log' ∧ (∃ ws, st' = ws ++ st) ∧ k st' log' = some res
  | [], i, st, log, k, h => ⟨st, log, .nil, ⟨[], rfl⟩, h⟩
  | o :: r, i, st, log, k, h => by
    cases hg : o.guard with
    | none =>
      simp only [evOps, hg] at h
      obtain ⟨rs, ws, h1, h2⟩ := Prg.runs_of_run h
      obtain ⟨st', log', h3, ⟨wx, ex⟩, h4⟩ := evOps_trace r (i + 1) _ _ k h2
      exact ⟨st', log', .cons (.run hg h1) (fun l => rfl) h3, ext_of ex, h4⟩
    | some p =>
      obtain ⟨g, want⟩ := p
      simp only [evOps, hg] at h
      cases ht : (all[g]?).bind (·.dst) with
      | none => simp only [ht] at h; cases h
      | some gt =>
        simp only [ht] at h
        split at h
        · rename_i b hb
          have go : ∀ {b : Bool}, st.get (.tmp gt) = .one (.dat .bool b) → b = want → (opP T Φ (ownOf H.own rid i) (frzOf H.frz rid i) rc i o).run ((.tmp gt, .one (.dat .bool b)) :: st) [.tmp gt] (fun rs ws => evOps T Φ H rid rc all r (i + 1) (ws ++ (.tmp gt, .one (.dat .bool b)) :: st) (⟨i, rs, ws.map (·.1)⟩ :: log) k) = some res →
              ∃ st' log', Trace T Φ H rid rc all (o :: r) i st log st' log' ∧ (∃ ws, st' = ws ++ st) ∧ k st' log' = some res := by
            intro b hb hw hh
            obtain ⟨rs, ws, h1, h2⟩ := Prg.runs_of_run hh
            clear h hh
            subst hw
            obtain ⟨st', log', h3, ⟨wx, ex⟩, h4⟩ := evOps_trace r (i + 1) _ _ k h2
            exact ⟨st', log', .cons (.yes hg ht hb (h1.congr fun l _ => (get_pin hb l).symm)) (fun l => get_app_congr (get_pin hb) ws l) h3, ext_of2 ex, h4⟩
          have skip : ∀ {b : Bool}, st.get (.tmp gt) = .one (.dat .bool b) → (!want) = b → evOps T Φ H rid rc all r (i + 1) (undW o ++ (.tmp gt, .one (.dat .bool b)) :: st) (⟨i, [.tmp gt], (undW (Ω := Ω) o).map (·.1)⟩ :: log) k = some res →
              ∃ st' log', Trace T Φ H rid rc all (o :: r) i st log st' log' ∧ (∃ ws, st' = ws ++ st) ∧ k st' log' = some res := by
            intro b hb hw h
            obtain ⟨st', log', h3, ⟨wx, ex⟩, h4⟩ := evOps_trace r (i + 1) _ _ k h
            exact ⟨st', log', .cons (.no hg ht (.inl (by rw [hw]; exact hb))) (fun l => get_app_congr (get_pin hb) _ l) h3, ext_of2 ex, h4⟩
          cases b with
          | true =>
            cases want with
            | true => exact go hb rfl h
            | false => exact skip hb rfl h
          | false =>
            cases want with
            | false => exact go hb rfl h
            | true => exact skip hb rfl h
        · rename_i hb
          obtain ⟨st', log', h3, ⟨wx, ex⟩, h4⟩ := evOps_trace r (i + 1) _ _ k h
          exact ⟨st', log', .cons (.no hg ht (.inr hb)) (fun l => rfl) h3, ext_of ex, h4⟩
        · cases h
/-- One operation, in memory. -/
theorem step_ok (hT : TabOk P T) (hΦ : EnvOk P C Φ) {own : Nat} {frz : Bool} {all : Array Oper} {o : Oper} {Q : Exit → Act → World → Prop} {K : Act → World → Prop} (ho : all[i]? = some o) (hb : opB N o = true)
    (hr : Rep C G N used st a w) (hf : FreshAt used rc i) (h : OpRun T Φ own frz rc all i o st rs ws) (hK : ∀ G' a' w', Fr G.ρ w G'.ρ w' → Rep C G' N (usedAt used rc i) (ws ++ st) a' w' → K a' w') : wpOp P all Q i K a w := by
  have tmp : ∀ {gt : Nat} {v : Value}, a.tmps.getD gt undef = v → v ≠ undef → a.tmps[gt]? = some v := by
    intro gt v h1 h2
    cases h3 : a.tmps[gt]? with
    | none => rw [Array.getD_eq_getD_getElem?, h3] at h1; exact absurd h1.symm h2
    | some u => rw [Array.getD_eq_getD_getElem?, h3] at h1; exact congrArg some h1
  have run : ∀ {acc}, (opP T Φ own frz rc i o).Runs st acc rs ws → o.wp P a w K Q := fun h => opP_ok hT hΦ hb hr hf h K Q hK
  unfold wpOp
  simp only [ho]
  cases h with
  | run hg h => rw [if_pos (by simp [Region.wanted, hg])]; exact .inl (run h)
  | @yes _ _ g want gt hg ht hs h =>
    have h1 := hr.at_ (.tmp gt)
    rw [hs] at h1
    have h2 : a.tmps.getD gt undef = .bool want := dat_bool (C := C) (G := G) (w := w) (at_ := some (.tmp gt)) h1
    have h3 := tmp h2 (by simp [undef])
    rw [if_pos (by simp [Region.wanted, hg, yielded, ht, h3])]
    exact .inl (run h)
  | @no g want gt hg ht hs =>
    have hw : Region.wanted o (yielded all a.tmps) = false := by
      have h1 := hr.at_ (.tmp gt)
      rcases hs with hs | hs
      · rw [hs] at h1
        have h2 : a.tmps.getD gt undef = .bool (!want) := dat_bool (C := C) (G := G) (w := w) (at_ := some (.tmp gt)) h1
        have h3 := tmp h2 (by simp [undef])
        cases want <;> simp [Region.wanted, hg, yielded, ht, h3]
      · rw [hs] at h1
        obtain ⟨us, e, hus⟩ := h1
        have hus' : us = #[] := by
          cases hl : us.toList with
          | nil => exact Array.toList_eq_nil_iff.1 hl
          | cons x y => rw [hl] at hus; cases hus
        subst hus'
        cases h3 : a.tmps[gt]? with
        | none => simp [Region.wanted, hg, yielded, ht, h3]
        | some u =>
          rw [Array.getD_eq_getD_getElem?, h3] at e
          have e : u = .tuple #[] := e
          subst e
          simp [Region.wanted, hg, yielded, ht, h3]
    rw [hw]
    simp only [Bool.false_eq_true, if_false]
    cases hd : o.dst with
    | none =>
      refine hK G _ w (Fr.refl _ _) ?_
      simp only [undW, hd]
      exact hr.mono fun _ h => .inl h
    | some d =>
      refine hK G _ w (Fr.refl _ _) ?_
      simp only [undW, hd]
      exact (hr.mono fun _ h => .inl h).put (opB_dst hb d hd) (u := .tup []) (v := undef) ⟨#[], rfl, .nil⟩
end
end Go.Proofs.Ytbgefphoochgcaa.FE
