/- FE, a verified evaluator of the program's functions over data: part 3 of 3. -/
import Derived.Test.YtbgefphoochgcaaFeM2
import Derived.Orders
import Derived.Tactics
import Derived.Lib.SliceRun
import Derived.Lib.RowBridge
import Derived.Lib.SlicesCompact
import Derived.Sort.Grow
import Derived.DataReads
import Derived.Below
import Derived.WideShapes
import Derived.Laws.BitsLemmas
/- FE, part 29: regions, in the text's order. -/
namespace Go.Proofs.Ytbgefphoochgcaa.FE
open Go
set_option linter.unusedVariables false
set_option linter.unusedSimpArgs false
section
variable {Ω : Type} {C : CloRep Ω} {P : Program} {T : Tab} {N : Nat} {Φ : Env Ω}
variable {rc i : Nat} {G : Ghost} {used used' : Id → Prop} {st st' ws : S Ω} {a : Act} {w w' : World} {acc rs : List Loc}

/-- One operation of a region: run, or passed over. -/
inductive OpRun (T : Tab) (Φ : Env Ω) (own : Nat) (frz : Bool) (rc : Nat) (all : Array Oper) (i : Nat) (o : Oper) (st : S Ω) : List Loc → List (Loc × AV Ω) → Prop
  | run {rs : List Loc} {ws : List (Loc × AV Ω)} (hg : o.guard = none) (h : (opP T Φ own frz rc i o).Runs st [] rs ws) : OpRun T Φ own frz rc all i o st rs ws
  | yes {rs : List Loc} {ws : List (Loc × AV Ω)} {g : Nat} {want : Bool} {gt : Nat} (hg : o.guard = some (g, want)) (ht : (all[g]?).bind (·.dst) = some gt) (hs : st.get (.tmp gt) = .one (.dat .bool want)) (h : (opP T Φ own frz rc i o).Runs st [.tmp gt] rs ws) : OpRun T Φ own frz rc all i o st rs ws
  | no {g : Nat} {want : Bool} {gt : Nat} (hg : o.guard = some (g, want)) (ht : (all[g]?).bind (·.dst) = some gt) (hs : st.get (.tmp gt) = .one (.dat .bool (!want)) ∨ st.get (.tmp gt) = .tup []) : OpRun T Φ own frz rc all i o st [.tmp gt] (undW o)
theorem OpRun.congr {own : Nat} {frz : Bool} {all : Array Oper} {o : Oper} (h : OpRun T Φ own frz rc all i o st rs ws) (hg : ∀ l ∈ rs, S.get st' l = S.get st l) : OpRun T Φ own frz rc all i o st' rs ws := by
  cases h with
  | run h1 h2 => exact .run h1 (h2.congr hg)
  | yes h1 h2 h3 h4 => exact .yes h1 h2 ((hg _ (Prg.Runs.acc h4 _ (by simp))).trans h3) (h4.congr hg)
  | no h1 h2 h3 => exact .no h1 h2 (by rw [hg _ (by simp)]; exact h3)
/-- A region, in the text's order; what each operation read and wrote. -/
inductive Trace (T : Tab) (Φ : Env Ω) (H : Hints) (rid rc : Nat) (all : Array Oper) : List Oper → Nat → S Ω → List LogRow → S Ω → List LogRow → Prop
  | nil {i : Nat} {st : S Ω} {log : List LogRow} : Trace T Φ H rid rc all [] i st log st log
  | cons {o : Oper} {r : List Oper} {i : Nat} {st : S Ω} {rs : List Loc} {ws : List (Loc × AV Ω)} {st1 : S Ω} {log : List LogRow} {st' : S Ω} {log' : List LogRow} (h : OpRun T Φ (ownOf H.own rid i) (frzOf H.frz rid i) rc all i o st rs ws) (e : ∀ l, S.get st1 l = S.get (ws ++ st) l)
      (t : Trace T Φ H rid rc all r (i + 1) st1 (⟨i, rs, ws.map (·.1)⟩ :: log) st' log') : Trace T Φ H rid rc all (o :: r) i st log st' log'
theorem get_pin {t : Nat} {v : AV Ω} (h : st.get (.tmp t) = v) (l : Loc) : S.get ((.tmp t, v) :: st) l = S.get st l := by
  by_cases e : Loc.tmp t = l
  · subst e; simp [S.get, locB_self, h]
  · simp [S.get, locB_ne e]
theorem get_app_congr {x y : S Ω} (h : ∀ l, S.get x l = S.get y l) (ws : S Ω) (l : Loc) : S.get (ws ++ x) l = S.get (ws ++ y) l := by
  rw [get_append, get_append, h l]
theorem ext_of {st st' ws wx : S Ω} (h : st' = wx ++ (ws ++ st)) : ∃ ws, st' = ws ++ st := ⟨wx ++ ws, by rw [h, List.append_assoc]⟩
theorem ext_of2 {st st' ws wx : S Ω} {p : Loc × AV Ω} (h : st' = wx ++ (ws ++ p :: st)) : ∃ ws, st' = ws ++ st := ⟨wx ++ ws ++ [p], by rw [h]; simp⟩
theorem evOps_trace {R : Type} {H : Hints} {rid : Nat} {all : Array Oper} {res : R} : ∀ (r : List Oper) (i : Nat) (st : S Ω) (log : List LogRow) (k : S Ω → List LogRow → Option R), evOps T Φ H rid rc all r i st log k = some res →
    ∃ st' log', Trace T Φ H rid rc all r i st log st' log' ∧ (∃ ws, st' = ws ++ st) ∧ k st' log' = some res
  | [], i, st, log, k, h => ⟨st, log, .nil, ⟨[], rfl⟩, h⟩
  | o :: r, i, st, log, k, h => by
    cases hg : o.guard with
    | none =>
      simp only [evOps, hg] at h
      obtain ⟨rs, ws, h1, h2⟩ := Prg.runs_of_run h
      obtain ⟨st', log', h3, ⟨wx, ex⟩, h4⟩ := evOps_trace r (i + 1) _ _ k h2
      exact ⟨st', log', .cons (.run hg h1) (fun l => rfl) h3, ext_of ex, h4⟩
    | some p =>
      obtain ⟨g, want⟩ := p
      simp only [evOps, hg] at h
      cases ht : (all[g]?).bind (·.dst) with
      | none => simp only [ht] at h; cases h
      | some gt =>
        simp only [ht] at h
        split at h
        · rename_i b hb
          have go : ∀ {b : Bool}, st.get (.tmp gt) = .one (.dat .bool b) → b = want → (opP T Φ (ownOf H.own rid i) (frzOf H.frz rid i) rc i o).run ((.tmp gt, .one (.dat .bool b)) :: st) [.tmp gt] (fun rs ws => evOps T Φ H rid rc all r (i + 1) (ws ++ (.tmp gt, .one (.dat .bool b)) :: st) (⟨i, rs, ws.map (·.1)⟩ :: log) k) = some res →
              ∃ st' log', Trace T Φ H rid rc all (o :: r) i st log st' log' ∧ (∃ ws, st' = ws ++ st) ∧ k st' log' = some res := by
            intro b hb hw hh
            obtain ⟨rs, ws, h1, h2⟩ := Prg.runs_of_run hh
            clear h hh
            subst hw
            obtain ⟨st', log', h3, ⟨wx, ex⟩, h4⟩ := evOps_trace r (i + 1) _ _ k h2
            exact ⟨st', log', .cons (.yes hg ht hb (h1.congr fun l _ => (get_pin hb l).symm)) (fun l => get_app_congr (get_pin hb) ws l) h3, ext_of2 ex, h4⟩
          have skip : ∀ {b : Bool}, st.get (.tmp gt) = .one (.dat .bool b) → (!want) = b → evOps T Φ H rid rc all r (i + 1) (undW o ++ (.tmp gt, .one (.dat .bool b)) :: st) (⟨i, [.tmp gt], (undW (Ω := Ω) o).map (·.1)⟩ :: log) k = some res →
              ∃ st' log', Trace T Φ H rid rc all (o :: r) i st log st' log' ∧ (∃ ws, st' = ws ++ st) ∧ k st' log' = some res := by
            intro b hb hw h
            obtain ⟨st', log', h3, ⟨wx, ex⟩, h4⟩ := evOps_trace r (i + 1) _ _ k h
            exact ⟨st', log', .cons (.no hg ht (.inl (by rw [hw]; exact hb))) (fun l => get_app_congr (get_pin hb) _ l) h3, ext_of2 ex, h4⟩
          cases b with
          | true =>
            cases want with
            | true => exact go hb rfl h
            | false => exact skip hb rfl h
          | false =>
            cases want with
            | false => exact go hb rfl h
            | true => exact skip hb rfl h
        · rename_i hb
          obtain ⟨st', log', h3, ⟨wx, ex⟩, h4⟩ := evOps_trace r (i + 1) _ _ k h
          exact ⟨st', log', .cons (.no hg ht (.inr hb)) (fun l => rfl) h3, ext_of ex, h4⟩
        · cases h
/-- One operation, in memory. -/
theorem step_ok (hT : TabOk P T) (hΦ : EnvOk P C Φ) {own : Nat} {frz : Bool} {all : Array Oper} {o : Oper} {Q : Exit → Act → World → Prop} {K : Act → World → Prop} (ho : all[i]? = some o) (hb : opB N o = true)
    (hr : Rep C G N used st a w) (hf : FreshAt used rc i) (h : OpRun T Φ own frz rc all i o st rs ws) (hK : ∀ G' a' w', Fr G.ρ w G'.ρ w' → Rep C G' N (usedAt used rc i) (ws ++ st) a' w' → K a' w') : wpOp P all Q i K a w := by
  have tmp : ∀ {gt : Nat} {v : Value}, a.tmps.getD gt undef = v → v ≠ undef → a.tmps[gt]? = some v := by
    intro gt v h1 h2
    cases h3 : a.tmps[gt]? with
    | none => rw [Array.getD_eq_getD_getElem?, h3] at h1; exact absurd h1.symm h2
    | some u => rw [Array.getD_eq_getD_getElem?, h3] at h1; exact congrArg some h1
  have run : ∀ {acc}, (opP T Φ own frz rc i o).Runs st acc rs ws → o.wp P a w K Q := fun h => opP_ok hT hΦ hb hr hf h K Q hK
  unfold wpOp
  simp only [ho]
  cases h with
  | run hg h => rw [if_pos (by simp [Region.wanted, hg])]; exact .inl (run h)
  | @yes _ _ g want gt hg ht hs h =>
    have h1 := hr.at_ (.tmp gt)
    rw [hs] at h1
    have h2 : a.tmps.getD gt undef = .bool want := dat_bool (C := C) (G := G) (w := w) (at_ := some (.tmp gt)) h1
    have h3 := tmp h2 (by simp [undef])
    rw [if_pos (by simp [Region.wanted, hg, yielded, ht, h3])]
    exact .inl (run h)
  | @no g want gt hg ht hs =>
    have hw : Region.wanted o (yielded all a.tmps) = false := by
      have h1 := hr.at_ (.tmp gt)
      rcases hs with hs | hs
      · rw [hs] at h1
        have h2 : a.tmps.getD gt undef = .bool (!want) := dat_bool (C := C) (G := G) (w := w) (at_ := some (.tmp gt)) h1
        have h3 := tmp h2 (by simp [undef])
        cases want <;> simp [Region.wanted, hg, yielded, ht, h3]
      · rw [hs] at h1
        obtain ⟨us, e, hus⟩ := h1
        have hus' : us = #[] := by
          cases hl : us.toList with
          | nil => exact Array.toList_eq_nil_iff.1 hl
          | cons x y => rw [hl] at hus; cases hus
        subst hus'
        cases h3 : a.tmps[gt]? with
        | none => simp [Region.wanted, hg, yielded, ht, h3]
        | some u =>
          rw [Array.getD_eq_getD_getElem?, h3] at e
          have e : u = .tuple #[] := e
          subst e
          simp [Region.wanted, hg, yielded, ht, h3]
    rw [hw]
    simp only [Bool.false_eq_true, if_false]
    cases hd : o.dst with
    | none =>
      refine hK G _ w (Fr.refl _ _) ?_
      simp only [undW, hd]
      exact hr.mono fun _ h => .inl h
    | some d =>
      refine hK G _ w (Fr.refl _ _) ?_
      simp only [undW, hd]
      exact (hr.mono fun _ h => .inl h).put (opB_dst hb d hd) (u := .tup []) (v := undef) ⟨#[], rfl, .nil⟩
end
end Go.Proofs.Ytbgefphoochgcaa.FE
/- FE, part 30: regions, in the text's order: done. -/
namespace Go.Proofs.Ytbgefphoochgcaa.FE
open Go
set_option linter.unusedVariables false
set_option linter.unusedSimpArgs false
section
variable {Ω : Type} {C : CloRep Ω} {P : Program} {T : Tab} {N : Nat} {Φ : Env Ω}
variable {rc : Nat} {used : Id → Prop}

def usedR (used : Id → Prop) (rc i : Nat) : Id → Prop := fun id => used id ∨ ∃ j s, j < i ∧ id = (rc, j, s)
/-- No id of this stamp is in use. -/
def FreshR (used : Id → Prop) (rc : Nat) : Prop := ∀ j s, ¬ used (rc, j, s)
/-- The next stamp: what was made in this region is in use. -/
def usedN (used : Id → Prop) (rc : Nat) : Id → Prop := fun id => used id ∨ id.1 = rc
theorem usedR_fresh {i : Nat} (h : FreshR used rc) : FreshAt (usedR used rc i) rc i := by
  rintro s (h' | ⟨j, s', hj, e⟩)
  · exact h i s h'
  · simp only [Prod.mk.injEq, true_and] at e; omega
theorem usedR_next {i : Nat} : ∀ id, usedAt (usedR used rc i) rc i id → usedR used rc (i + 1) id := by
  rintro id ((h | ⟨j, s, hj, e⟩) | ⟨s, e⟩)
  · exact .inl h
  · exact .inr ⟨j, s, by omega, e⟩
  · exact .inr ⟨i, s, by omega, e⟩
theorem usedR_N {i : Nat} : ∀ id, usedR used rc i id → usedN used rc id := by
  rintro id (h | ⟨j, s, hj, rfl⟩)
  · exact .inl h
  · exact .inr rfl
theorem text_ok (hT : TabOk P T) (hΦ : EnvOk P C Φ) {H : Hints} {rid : Nat} {all : Array Oper} (hB : ∀ o ∈ all.toList, opB N o = true) {Q : Exit → Act → World → Prop} (hf : FreshR used rc) :
    ∀ (r : List Oper) (i : Nat) {G : Ghost} {st st' : S Ω} {a : Act} {w : World} {log log' : List LogRow}, Trace T Φ H rid rc all r i st log st' log' → all.toList.drop i = r → Rep C G N (usedR used rc i) st a w →
      (∀ G' a' w', Fr G.ρ w G'.ρ w' → Rep C G' N (usedN used rc) st' a' w' → Q .normal a' w') → wpOps P all Q (List.range' i r.length) a w
  | [], i, G, st, st', a, w, log, log', ht, hr0, hr, hK => by
    cases ht
    exact hK G a w (Fr.refl _ _) (hr.mono usedR_N)
  | o :: r, i, G, st, st', a, w, log, log', ht, hr0, hr, hK => by
    cases ht with
    | cons h e t =>
      have ho : all.toList[i]? = some o := by
        have h1 : (all.toList.drop i)[0]? = some o := by rw [hr0]; rfl
        rw [List.getElem?_drop] at h1
        simpa using h1
      have ho' : all[i]? = some o := by simpa using ho
      have hr1 : all.toList.drop (i + 1) = r := by
        rw [← List.drop_drop, hr0]; rfl
      rw [List.length_cons, List.range'_succ, wpOps_cons]
      refine step_ok hT hΦ ho' (hB o (List.mem_of_getElem? ho)) hr (usedR_fresh hf) h (fun G' a' w' hfr hrep => ?_)
      exact text_ok hT hΦ hB hf r (i + 1) t hr1 ((hrep.mono usedR_next).congr e) (fun G2 a2 w2 h2 h3 => hK G2 a2 w2 (hfr.trans h2) h3)
/-- A region in the text's order. -/
theorem region_text (hT : TabOk P T) (hΦ : EnvOk P C Φ) {H : Hints} {rid : Nat} {all : Array Oper} (hB : ∀ o ∈ all.toList, opB N o = true) {Q : Exit → Act → World → Prop} (hf : FreshR used rc)
    {G : Ghost} {st st' : S Ω} {a : Act} {w : World} {log log' : List LogRow} (ht : Trace T Φ H rid rc all all.toList 0 st log st' log') (hr : Rep C G N used st a w)
    (hK : ∀ G' a' w', Fr G.ρ w G'.ρ w' → Rep C G' N (usedN used rc) st' a' w' → Q .normal a' w') : (Code.region rid all false).wp P Q a w := by
  refine wp_region ?_
  have := text_ok hT hΦ hB (Q := Q) hf all.toList 0 ht rfl (hr.mono fun _ h => .inl h) hK
  rwa [List.range_eq_range', ← Array.length_toList]
/-- Reading goes on: nothing of memory changes but what is drawn. -/
theorem Rep.drawn {G : Ghost} {st : S Ω} {a : Act} {w : World} (hr : Rep C G N used st a w) (n : Nat) : Rep C G N used st a { w with drawn := n } ∧ Fr G.ρ w G.ρ { w with drawn := n } := by
  have hs : ∀ L, Step G w G { w with drawn := n } L := fun L =>
    ⟨fun _ _ h => h, fun _ _ h => h, rfl, rfl, rfl, Nat.le_refl _, fun _ _ h => ⟨rfl, h⟩, fun _ _ h _ => ⟨rfl, h⟩, fun _ h => ⟨rfl, h⟩, fun _ h _ => ⟨rfl, h⟩, fun b n' id h => ⟨(hr.box id b n' h).1, (hr.box id b n' h).2, fun _ _ => rfl⟩, hr.lt, fun _ _ h _ => h⟩
  exact ⟨Rep.step (ws := []) hr (hs _) (fun l hl => by simp [inL] at hl) (fun _ _ => rfl) hr.size hr.defers (fun _ _ _ h => .inl h) hr.usedΓ hr.usedβ, (hs (fun _ => False)).fr⟩
end
end Go.Proofs.Ytbgefphoochgcaa.FE
/- FE, part 31: regions, in whatever order is drawn. -/
namespace Go.Proofs.Ytbgefphoochgcaa.FE
open Go
set_option linter.unusedVariables false
set_option linter.unusedSimpArgs false

/-! ### what comes before what -/
def befOf (bs : Array Nat) (o : Oper) : Nat := o.after.foldl (fun s e => if Region.binds .any e then s ||| 2 ^ e.on ||| bs.getD e.on 0 else s) 0
theorem befOf_bit {bs : Array Nat} {o : Oper} {j : Nat} (h : (befOf bs o).testBit j = true) : ∃ e ∈ o.after.toList, Region.binds .any e = true ∧ (j = e.on ∨ (bs.getD e.on 0).testBit j = true) := by
  unfold befOf at h
  rw [← Array.foldl_toList] at h
  have key : ∀ (l : List Edge) (s : Nat), (l.foldl (fun s e => if Region.binds .any e then s ||| 2 ^ e.on ||| bs.getD e.on 0 else s) s).testBit j = true → s.testBit j = true ∨ ∃ e ∈ l, Region.binds .any e = true ∧ (j = e.on ∨ (bs.getD e.on 0).testBit j = true) := by
    intro l
    induction l with
    | nil => intro s h; exact .inl h
    | cons e r ih =>
      intro s h
      rcases ih _ h with h | ⟨e', he, h⟩
      · simp only [] at h
        split at h
        · rename_i hb
          rw [Nat.testBit_or, Nat.testBit_or, Bool.or_eq_true, Bool.or_eq_true] at h
          rcases h with (h | h) | h
          · exact .inl h
          · rw [Nat.testBit_two_pow] at h
            exact .inr ⟨e, by simp, hb, .inl (by simp at h; exact h.symm)⟩
          · exact .inr ⟨e, by simp, hb, .inr h⟩
        · exact .inl h
      · exact .inr ⟨e', by simp [he], h⟩
  rcases key _ 0 h with h | h
  · simp at h
  · exact h
/-- The array, place by place. -/
theorem before_at {ops : Array Oper} : ∀ {i : Nat} {o : Oper}, ops[i]? = some o → ∃ bs : Array Nat, bs.size = i ∧ (∀ k, k < i → bs[k]? = (Region.before ops)[k]?) ∧ (Region.before ops)[i]? = some (befOf bs o) := by
  have key : ∀ (l : List Oper) (acc : Array Nat), (∀ k, k < acc.size → (l.foldl (fun acc o => acc.push (befOf acc o)) acc)[k]? = acc[k]?) ∧
      ∀ i o, l[i]? = some o → ∃ bs : Array Nat, bs.size = acc.size + i ∧ (∀ k, k < acc.size + i → bs[k]? = (l.foldl (fun acc o => acc.push (befOf acc o)) acc)[k]?) ∧ (l.foldl (fun acc o => acc.push (befOf acc o)) acc)[acc.size + i]? = some (befOf bs o) := by
    intro l
    induction l with
    | nil => intro acc; exact ⟨fun k _ => rfl, fun i o h => by simp at h⟩
    | cons x r ih =>
      intro acc
      obtain ⟨h1, h2⟩ := ih (acc.push (befOf acc x))
      rw [Array.size_push] at h1 h2
      refine ⟨fun k hk => ?_, fun i o h => ?_⟩
      · rw [List.foldl_cons, h1 k (by omega), Array.getElem?_push, if_neg (by omega)]
      · rw [List.foldl_cons]
        cases i with
        | zero =>
          simp at h
          subst h
          refine ⟨acc, rfl, fun k hk => ?_, ?_⟩
          · rw [h1 k (by omega), Array.getElem?_push, if_neg (by omega)]
          · rw [Nat.add_zero, h1 acc.size (by omega), Array.getElem?_push, if_pos rfl]
        | succ i =>
          obtain ⟨bs, e1, e2, e3⟩ := h2 i o (by simpa using h)
          refine ⟨bs, by omega, fun k hk => e2 k (by omega), ?_⟩
          rw [show acc.size + (i + 1) = acc.size + 1 + i by omega]
          exact e3
  intro i o h
  have hb : Region.before ops = ops.toList.foldl (fun acc o => acc.push (befOf acc o)) #[] := by
    unfold Region.before
    rw [← Array.foldl_toList]
    rfl
  obtain ⟨bs, e1, e2, e3⟩ := (key ops.toList #[]).2 i o (by simpa using h)
  rw [← hb] at e2 e3
  simp only [List.size_toArray, List.length_nil, Nat.zero_add] at e1 e2 e3
  exact ⟨bs, e1, e2, e3⟩
/-- What an operation's edges lead to, and what is behind them. -/
theorem before_bit {ops : Array Oper} {i j : Nat} {o : Oper} (ho : ops[i]? = some o) (h : ((Region.before ops).getD i 0).testBit j = true) : ∃ e ∈ o.after.toList, Region.binds .any e = true ∧ (j = e.on ∨ (e.on < i ∧ ((Region.before ops).getD e.on 0).testBit j = true)) := by
  obtain ⟨bs, e1, e2, e3⟩ := before_at ho
  rw [Array.getD_eq_getD_getElem?, e3] at h
  obtain ⟨e, he, hb, hj⟩ := befOf_bit h
  refine ⟨e, he, hb, hj.imp id fun hj => ?_⟩
  by_cases hlt : e.on < i
  · refine ⟨hlt, ?_⟩
    rw [Array.getD_eq_getD_getElem?, ← e2 e.on hlt, ← Array.getD_eq_getD_getElem?]
    exact hj
  · rw [Array.getD_eq_getD_getElem?, Array.getElem?_eq_none (by omega)] at hj
    simp at hj
theorem before_some {ops : Array Oper} {i j : Nat} (h : ((Region.before ops).getD i 0).testBit j = true) : ∃ o, ops[i]? = some o := by
  cases ho : ops[i]? with
  | some o => exact ⟨o, rfl⟩
  | none =>
    have hs : (Region.before ops).size = ops.size := by
      unfold Region.before
      rw [← Array.foldl_toList]
      have : ∀ (l : List Oper) (acc : Array Nat), (l.foldl (fun acc o => acc.push (o.after.foldl (fun s e => if Region.binds .any e then s ||| 2 ^ e.on ||| acc.getD e.on 0 else s) 0)) acc).size = acc.size + l.length := by
        intro l
        induction l with
        | nil => intro acc; rfl
        | cons x r ih => intro acc; rw [List.foldl_cons, ih, Array.size_push, List.length_cons]; omega
      rw [this]; simp
    have : ops.size ≤ i := by
      rcases Nat.lt_or_ge i ops.size with h' | h'
      · rw [Array.getElem?_eq_getElem h'] at ho; cases ho
      · exact h'
    rw [Array.getD_eq_getD_getElem?, Array.getElem?_eq_none (by omega)] at h
    simp at h
/-- A set that holds what its members' edges lead to holds what comes before them. -/
theorem before_closed {ops : Array Oper} {L : Nat → Prop} (hL : ∀ i o, L i → ops[i]? = some o → ∀ e ∈ o.after.toList, Region.binds .any e = true → L e.on) : ∀ (n i j : Nat) (o : Oper), i < n → ops[i]? = some o → (∀ e ∈ o.after.toList, Region.binds .any e = true → L e.on) →
    ((Region.before ops).getD i 0).testBit j = true → L j := by
  intro n
  induction n with
  | zero => intro i j o h; omega
  | succ n ih =>
    intro i j o hi ho he h
    obtain ⟨e, h1, h2, h3⟩ := before_bit ho h
    rcases h3 with rfl | ⟨h3, h4⟩
    · exact he e h1 h2
    · obtain ⟨o', ho'⟩ := before_some h4
      exact ih e.on j o' (by omega) ho' (hL _ _ (he e h1 h2) ho') h4
theorem backE_spec {i : Nat} : ∀ {l : List Edge}, backE i l = true → ∀ e ∈ l, Region.binds .any e = true → e.on < i
  | [], _, e, h, _ => by cases h
  | x :: r, hb, e, h, hbe => by
    simp only [backE] at hb
    split at hb
    · rename_i hx
      rcases List.mem_cons.1 h with rfl | h
      · rw [hbe] at hx; exact Nat.le_of_ble_eq_true hx
      · exact backE_spec hb e h hbe
    · cases hb
theorem backB_spec : ∀ {l : List Oper} {i : Nat}, backB i l = true → ∀ k o, l[k]? = some o → ∀ e ∈ o.after.toList, Region.binds .any e = true → e.on < i + k
  | [], i, _, k, o, h => by simp at h
  | x :: r, i, hb, k, o, h => by
    simp only [backB] at hb
    split at hb
    · rename_i hx
      cases k with
      | zero =>
        simp at h
        subst h
        exact backE_spec hx
      | succ k =>
        have := backB_spec hb k o (by simpa using h)
        rw [show i + (k + 1) = i + 1 + k by omega]
        exact this
    · cases hb
theorem before_lt {ops : Array Oper} (hb : backB 0 ops.toList = true) : ∀ (n i j : Nat), i < n → ((Region.before ops).getD i 0).testBit j = true → j < i := by
  intro n
  induction n with
  | zero => intro i j h; omega
  | succ n ih =>
    intro i j hi h
    obtain ⟨o, ho⟩ := before_some h
    obtain ⟨e, h1, h2, h3⟩ := before_bit ho h
    have he := backB_spec hb i o (by simpa using ho) e h1 h2
    rcases h3 with rfl | ⟨h3, h4⟩
    · omega
    · have := ih e.on j (by omega) h4
      omega
end Go.Proofs.Ytbgefphoochgcaa.FE
/- FE, part 32: regions, in whatever order is drawn: done. -/
namespace Go.Proofs.Ytbgefphoochgcaa.FE
open Go
set_option linter.unusedVariables false
set_option linter.unusedSimpArgs false
section
variable {Ω : Type} {C : CloRep Ω} {P : Program} {T : Tab} {N : Nat} {Φ : Env Ω}
variable {rc : Nat} {used : Id → Prop}

structure Apart (x y : LogRow) : Prop where
  wr : ∀ l ∈ x.ws, l ∉ y.rs
  ww : ∀ l ∈ x.ws, l ∉ y.ws
  rw : ∀ l ∈ x.rs, l ∉ y.ws
theorem apartL_spec : ∀ {A B : List Loc}, apartL A B = true → ∀ l ∈ A, l ∉ B
  | [], B, _, l, h => by cases h
  | a :: r, B, h, l, hl => by
    simp only [apartL] at h
    split at h
    · cases h
    · rename_i hn
      rcases List.mem_cons.1 hl with rfl | hl
      · intro hB
        rw [inL_iff.2 hB] at hn; cases hn
      · exact apartL_spec h l hl
theorem apartR_spec {x y : LogRow} (h : apartR x y = true) : Apart x y := by
  simp only [apartR, Bool.and_eq_true] at h
  exact ⟨apartL_spec h.1, apartL_spec h.2.1, apartL_spec h.2.2⟩
theorem Apart.symm {x y : LogRow} (h : Apart x y) : Apart y x := ⟨fun l h1 h2 => h.rw l h2 h1, fun l h1 h2 => h.ww l h2 h1, fun l h1 h2 => h.wr l h2 h1⟩
theorem orderedB_symm {bef : Array Nat} {i j : Nat} (h : orderedB bef i j = true) : orderedB bef j i = true := by
  simp only [orderedB, Bool.or_eq_true] at h ⊢
  exact h.symm
theorem indep1_spec {bef : Array Nat} {x : LogRow} : ∀ {log : List LogRow}, indep1 bef x log = true → ∀ y ∈ log, orderedB bef x.i y.i = true ∨ Apart x y
  | [], _, y, h => by cases h
  | z :: r, h, y, hy => by
    simp only [indep1] at h
    split at h
    · rename_i hz
      rcases List.mem_cons.1 hy with rfl | hy
      · rw [Bool.or_eq_true] at hz
        exact hz.imp id apartR_spec
      · exact indep1_spec h y hy
    · cases h
theorem indepAll_spec {bef : Array Nat} : ∀ {log : List LogRow}, indepAll bef log = true → ∀ x ∈ log, ∀ y ∈ log, x = y ∨ orderedB bef x.i y.i = true ∨ Apart x y
  | [], _, x, h, _, _ => by cases h
  | z :: r, h, x, hx, y, hy => by
    simp only [indepAll] at h
    split at h
    · rename_i hz
      rcases List.mem_cons.1 hx with ex | hx'
      · rcases List.mem_cons.1 hy with ey | hy'
        · exact .inl (ex.trans ey.symm)
        · subst ex; exact .inr (indep1_spec hz y hy')
      · rcases List.mem_cons.1 hy with ey | hy'
        · subst ey; exact .inr ((indep1_spec hz x hx').imp orderedB_symm Apart.symm)
        · exact indepAll_spec h x hx' y hy'
    · cases h
/-- The state behind some operations. -/
def pile (W : Nat → List (Loc × AV Ω)) (st : S Ω) (i : Nat) : Nat → S Ω
  | 0 => st
  | j + 1 => W (i + j) ++ pile W st i j
theorem trace_fun {H : Hints} {rid : Nat} {all : Array Oper} {r : List Oper} {i : Nat} {st st' : S Ω} {log log' : List LogRow} (h : Trace T Φ H rid rc all r i st log st' log') :
    ∃ (R : Nat → List Loc) (W : Nat → List (Loc × AV Ω)), (∀ j o, r[j]? = some o → OpRun T Φ (ownOf H.own rid (i + j)) (frzOf H.frz rid (i + j)) rc all (i + j) o (pile W st i j) (R (i + j)) (W (i + j))) ∧
      (∀ l, S.get st' l = S.get (pile W st i r.length) l) ∧ (∀ j, j < r.length → (⟨i + j, R (i + j), (W (i + j)).map (·.1)⟩ : LogRow) ∈ log') ∧ ∀ x ∈ log, x ∈ log' := by
  induction h with
  | nil => exact ⟨fun _ => [], fun _ => [], fun j o h => by simp at h, fun l => rfl, fun j h => by simp at h, fun x h => h⟩
  | @cons o r i st rs ws st1 log st' log' h e t ih =>
    obtain ⟨R, W, h1, h2, h3, h4⟩ := ih
    have hp : ∀ j l, S.get (pile (fun k => if k = i then ws else W k) st i (j + 1)) l = S.get (pile W st1 (i + 1) j) l := by
      intro j
      induction j with
      | zero =>
        intro l
        simp only [pile, Nat.add_zero, if_true]
        exact (e l).symm
      | succ j ihj =>
        intro l
        show S.get ((if i + (j + 1) = i then ws else W (i + (j + 1))) ++ pile (fun k => if k = i then ws else W k) st i (j + 1)) l = S.get (W (i + 1 + j) ++ pile W st1 (i + 1) j) l
        rw [if_neg (by omega), show i + (j + 1) = i + 1 + j by omega]
        exact get_app_congr ihj _ l
    refine ⟨fun k => if k = i then rs else R k, fun k => if k = i then ws else W k, fun j o' ho => ?_, fun l => ?_, fun j hj => ?_, fun x hx => h4 x (List.mem_cons_of_mem _ hx)⟩
    · cases j with
      | zero =>
        simp at ho
        subst ho
        simp only [Nat.add_zero, if_true]
        exact h
      | succ j =>
        have h5 := h1 j o' (by simpa using ho)
        simp only [if_neg (show ¬ i + (j + 1) = i by omega)]
        rw [show i + (j + 1) = i + 1 + j by omega]
        exact h5.congr fun l _ => hp j l
    · rw [h2 l, List.length_cons, hp]
    · cases j with
      | zero =>
        simp only [Nat.add_zero, if_true]
        exact h4 _ (by simp)
      | succ j =>
        have h5 := h3 j (by simpa using hj)
        simp only [if_neg (show ¬ i + (j + 1) = i by omega)]
        rw [show i + (j + 1) = i + 1 + j by omega]
        exact h5
/-- What stands at a place behind a set of operations: the last one's that wrote it. -/
def vl (L : Nat → Bool) (W : Nat → List (Loc × AV Ω)) (st : S Ω) (l : Loc) : Nat → AV Ω
  | 0 => S.get st l
  | m + 1 => if L m = true ∧ inL l ((W m).map (·.1)) = true then S.get (W m) l else vl L W st l m
section
variable {W : Nat → List (Loc × AV Ω)} {st : S Ω} {l : Loc} {L L' : Nat → Bool}
theorem pile_vl : ∀ m, S.get (pile W st 0 m) l = vl (fun _ => true) W st l m
  | 0 => rfl
  | m + 1 => by
    simp only [pile, vl, Nat.zero_add, true_and]
    rw [get_append, pile_vl m]
theorem vl_congr : ∀ {m : Nat}, (∀ j, j < m → inL l ((W j).map (·.1)) = true → L j = L' j) → vl L W st l m = vl L' W st l m
  | 0, _ => rfl
  | m + 1, h => by
    simp only [vl]
    rw [vl_congr (m := m) fun j hj => h j (by omega)]
    by_cases hi : inL l ((W m).map (·.1)) = true
    · rw [h m (by omega) hi]
    · simp [hi]
theorem vl_cut {k : Nat} : ∀ {m : Nat}, k ≤ m → (∀ j, k ≤ j → j < m → L j = true → inL l ((W j).map (·.1)) = true → False) → vl L W st l m = vl L W st l k
  | 0, hk, _ => by
    obtain rfl : k = 0 := by omega
    rfl
  | m + 1, hk, h => by
    by_cases e : k = m + 1
    · rw [e]
    · simp only [vl]
      rw [if_neg (fun h' => h m (by omega) (by omega) h'.1 h'.2)]
      exact vl_cut (by omega) fun j h1 h2 => h j h1 (by omega)
end
end
end Go.Proofs.Ytbgefphoochgcaa.FE
/- FE, part 33: a region in whatever order is drawn gives the text's order's state. -/
namespace Go.Proofs.Ytbgefphoochgcaa.FE
open Go
set_option linter.unusedVariables false
set_option linter.unusedSimpArgs false
section
variable {Ω : Type} {C : CloRep Ω} {P : Program} {T : Tab} {N : Nat} {Φ : Env Ω}
variable {rc : Nat} {used : Id → Prop}

def lst (listed : Array Bool) (i : Nat) : Bool := listed.getD i false
theorem getD_tf {listed : Array Bool} {i : Nat} (h : i < listed.size) : listed.getD i true = lst listed i := by
  simp [lst, h]
theorem lst_set {listed : Array Bool} {i j : Nat} (h : i < listed.size) : lst (listed.setIfInBounds i true) j = (if j = i then true else lst listed j) := by
  simp only [lst, Array.getD_eq_getD_getElem?, Array.getElem?_setIfInBounds]
  by_cases e : i = j
  · subst e; simp [h]
  · rw [if_neg e, if_neg (fun h => e h.symm)]
/-- How many are to come. -/
def todo (listed : Array Bool) : Nat → Nat
  | 0 => 0
  | n + 1 => (if lst listed n then 0 else 1) + todo listed n
theorem todo_zero {listed : Array Bool} : ∀ {n : Nat}, todo listed n = 0 → ∀ i, i < n → lst listed i = true
  | 0, _, i, h => by omega
  | n + 1, h, i, hi => by
    simp only [todo] at h
    by_cases e : i = n
    · subst e
      cases hl : lst listed i with
      | true => rfl
      | false => rw [hl] at h; simp at h
    · exact todo_zero (n := n) (by omega) i (by omega)
theorem todo_set {listed : Array Bool} {i : Nat} (h : i < listed.size) (hl : lst listed i = false) : ∀ {n : Nat}, (i < n → todo (listed.setIfInBounds i true) n + 1 = todo listed n) ∧ (n ≤ i → todo (listed.setIfInBounds i true) n = todo listed n)
  | 0 => ⟨fun h => by omega, fun _ => rfl⟩
  | n + 1 => by
    obtain ⟨h1, h2⟩ := todo_set h hl (n := n)
    simp only [todo, lst_set h]
    constructor
    · intro hi
      by_cases e : n = i
      · subst e
        rw [if_pos rfl, hl, h2 (Nat.le_refl _)]
        simp; omega
      · rw [if_neg e]
        have := h1 (by omega)
        omega
    · intro hi
      rw [if_neg (show ¬ n = i by omega), h2 (by omega)]
theorem lst_none {n i : Nat} : lst (Array.replicate n false) i = false := by
  rw [lst, Array.getD_eq_getD_getElem?]
  cases h : (Array.replicate n false)[i]? with
  | none => rfl
  | some b =>
    rw [Array.getElem?_replicate] at h
    split at h
    · cases h; rfl
    · cases h
theorem todo_all {n : Nat} : ∀ {m : Nat}, m ≤ n → todo (Array.replicate n false) m = m
  | 0, _ => rfl
  | m + 1, h => by
    have : lst (Array.replicate n false) m = false := lst_none
    simp only [todo, this]
    rw [todo_all (n := n) (m := m) (by omega)]
    simp; omega
section
variable {ops : Array Oper} {listed : Array Bool}
theorem mem_ready {i : Nat} (hs : listed.size = ops.size) : i ∈ Region.ready .any ops listed ↔ i < ops.size ∧ lst listed i = false ∧ ∀ o, ops[i]? = some o → ∀ e ∈ o.after.toList, Region.binds .any e = true → lst listed e.on = true := by
  unfold Region.ready
  rw [List.mem_filter, List.mem_range]
  constructor
  · rintro ⟨h1, h2⟩
    rw [Bool.and_eq_true] at h2
    refine ⟨h1, ?_, fun o ho e he hb => ?_⟩
    · have := h2.1
      rw [getD_tf (by omega)] at this
      simpa using this
    · have h3 := h2.2
      simp only [ho, Option.map_some, Option.getD_some, Array.all_eq_true'] at h3
      have h4 := h3 e (by simpa using he)
      simp only [hb, Bool.not_true, Bool.false_or] at h4
      exact h4
  · rintro ⟨h1, h2, h3⟩
    refine ⟨h1, ?_⟩
    rw [Bool.and_eq_true, getD_tf (by omega), h2]
    refine ⟨rfl, ?_⟩
    simp only [Array.getElem?_eq_getElem h1, Option.map_some, Option.getD_some, Array.all_eq_true']
    intro e he
    cases hb : Region.binds .any e with
    | false => rfl
    | true => exact h3 _ (Array.getElem?_eq_getElem h1) e (by simpa using he) hb
theorem ready_nil (hb : backB 0 ops.toList = true) (hs : listed.size = ops.size) (h : Region.ready .any ops listed = []) : ∀ n i, i < n → i < ops.size → lst listed i = true := by
  intro n
  induction n with
  | zero => intro i h; omega
  | succ n ih =>
    intro i hi hi2
    cases hl : lst listed i with
    | true => rfl
    | false =>
      have : i ∈ Region.ready .any ops listed := (mem_ready hs).2 ⟨hi2, hl, fun o ho e he hbe => by
        have := backB_spec hb i o (by simpa using ho) e he hbe
        exact ih e.on (by omega) (by omega)⟩
      rw [h] at this; cases this
end
def usedL (used : Id → Prop) (rc : Nat) (L : Nat → Bool) : Id → Prop := fun id => used id ∨ (id.1 = rc ∧ L id.2.1 = true)
theorem any_ok (hT : TabOk P T) (hΦ : EnvOk P C Φ) {H : Hints} {rid : Nat} {all : Array Oper} (hB : ∀ o ∈ all.toList, opB N o = true) {Q : Exit → Act → World → Prop} (hf : FreshR used rc) (hb : backB 0 all.toList = true)
    {R : Nat → List Loc} {W : Nat → List (Loc × AV Ω)} {st0 : S Ω} (hrun : ∀ j o, all.toList[j]? = some o → OpRun T Φ (ownOf H.own rid j) (frzOf H.frz rid j) rc all j o (pile W st0 0 j) (R j) (W j))
    (hind : ∀ i j, i < all.size → j < all.size → i ≠ j → orderedB (Region.before all) i j = true ∨ Apart ⟨i, R i, (W i).map (·.1)⟩ ⟨j, R j, (W j).map (·.1)⟩) {st' : S Ω} (hend : ∀ l, S.get st' l = S.get (pile W st0 0 all.size) l) :
    ∀ (fuel : Nat) (listed : Array Bool) {G : Ghost} {a : Act} {w : World} {st : S Ω}, listed.size = all.size → todo listed all.size ≤ fuel → (∀ i o, lst listed i = true → all[i]? = some o → ∀ e ∈ o.after.toList, Region.binds .any e = true → lst listed e.on = true) →
      (∀ l, S.get st l = vl (lst listed) W st0 l all.size) → Rep C G N (usedL used rc (lst listed)) st a w →
      (∀ G' a' w', Fr G.ρ w G'.ρ w' → Rep C G' N (usedN used rc) st' a' w' → Q .normal a' w') → wpAny P .any all Q fuel listed a w := by
  have done : ∀ (listed : Array Bool) {G : Ghost} {a : Act} {w : World} {st : S Ω}, (∀ i, i < all.size → lst listed i = true) → (∀ l, S.get st l = vl (lst listed) W st0 l all.size) → Rep C G N (usedL used rc (lst listed)) st a w →
      (∀ G' a' w', Fr G.ρ w G'.ρ w' → Rep C G' N (usedN used rc) st' a' w' → Q .normal a' w') → Q .normal a w := by
    intro listed G a w st hl hst hr hK
    refine hK G a w (Fr.refl _ _) ((hr.mono ?_).congr fun l => ?_)
    · rintro id (h | ⟨h, _⟩)
      · exact .inl h
      · exact .inr h
    · rw [hend l, pile_vl, hst l]
      exact (vl_congr fun j hj _ => hl j hj).symm
  intro fuel
  induction fuel with
  | zero =>
    intro listed G a w st hs ht hc hst hr hK
    have hl := todo_zero (Nat.le_zero.1 ht)
    refine ⟨?_, done listed hl hst hr hK⟩
    cases hrd : Region.ready .any all listed with
    | nil => rfl
    | cons x r =>
      have hx : x ∈ Region.ready .any all listed := by rw [hrd]; simp
      obtain ⟨h1, h2, _⟩ := (mem_ready hs).1 hx
      rw [hl x h1] at h2; cases h2
  | succ fuel ih =>
    intro listed G a w st hs ht hc hst hr hK
    refine ⟨fun h => done listed (fun i hi => ready_nil hb hs h (i + 1) i (by omega) hi) hst hr hK, fun i hi => ?_⟩
    obtain ⟨h1, h2, h3⟩ := (mem_ready hs).1 hi
    have ho := Array.getElem?_eq_getElem h1
    have hed := h3 _ ho
    have hbef : ∀ j, ((Region.before all).getD i 0).testBit j = true → lst listed j = true := fun j hj =>
      before_closed (L := fun j => lst listed j = true) hc (i + 1) i j _ (by omega) ho hed hj
    -- what an operation that has been listed, or is to come, has to do with this one
    have hord : ∀ j, j < all.size → j ≠ i → (lst listed j = true → i < j → ¬ orderedB (Region.before all) i j = true) ∧ (lst listed j = false → j < i → ¬ orderedB (Region.before all) i j = true) := by
      intro j hj hne
      refine ⟨fun hl hlt h => ?_, fun hl hlt h => ?_⟩
      · simp only [orderedB, Bool.or_eq_true] at h
        rcases h with h | h
        · have := before_lt hb (i + 1) i j (by omega) h; omega
        · have := before_closed (L := fun j => lst listed j = true) hc (j + 1) j i _ (by omega) (Array.getElem?_eq_getElem hj) (hc j _ hl (Array.getElem?_eq_getElem hj)) h
          rw [h2] at this; cases this
      · simp only [orderedB, Bool.or_eq_true] at h
        rcases h with h | h
        · rw [hbef j h] at hl; cases hl
        · have := before_lt hb (j + 1) j i (by omega) h; omega
    have hap : ∀ j, j < all.size → j ≠ i → ((lst listed j = true ∧ i < j) ∨ (lst listed j = false ∧ j < i)) → Apart ⟨i, R i, (W i).map (·.1)⟩ ⟨j, R j, (W j).map (·.1)⟩ := by
      intro j hj hne h
      rcases hind i j h1 hj (fun e => hne e.symm) with h' | h'
      · rcases h with ⟨k1, k2⟩ | ⟨k1, k2⟩
        · exact absurd h' ((hord j hj hne).1 k1 k2)
        · exact absurd h' ((hord j hj hne).2 k1 k2)
      · exact h'
    have hread : ∀ l ∈ R i, S.get st l = S.get (pile W st0 0 i) l := by
      intro l hl
      rw [hst l, pile_vl, vl_cut (k := i) (by omega) fun j k1 k2 k3 k4 => ?_]
      · refine vl_congr fun j hj hw => ?_
        cases hlj : lst listed j with
        | true => rfl
        | false => exact absurd (inL_iff.1 hw) ((hap j (by omega) (by omega) (.inr ⟨hlj, hj⟩)).rw l hl)
      · have hne : j ≠ i := by rintro rfl; rw [h2] at k3; cases k3
        exact (hap j k2 hne (.inl ⟨k3, by omega⟩)).rw l hl (inL_iff.1 k4)
    have hop := (hrun i all[i] (by rw [Array.getElem?_toList]; exact ho)).congr (st' := st) hread
    have hfr : FreshAt (usedL used rc (lst listed)) rc i := by
      rintro s (h | ⟨_, h⟩)
      · exact hf i s h
      · rw [h2] at h; cases h
    refine step_ok hT hΦ ho (hB _ (by simp)) hr hfr hop (fun G' a' w' hfr' hrep => ?_)
    have hi' : i < listed.size := by omega
    refine ih (listed.setIfInBounds i true) (st := W i ++ st) (by simp [hs]) ?_ ?_ (fun l => ?_) (hrep.mono ?_) (fun G2 a2 w2 k1 k2 => hK G2 a2 w2 (hfr'.trans k1) k2)
    · have := (todo_set hi' h2 (n := all.size)).1 h1
      omega
    · intro k o hk hok e he hbe
      rw [lst_set hi'] at hk ⊢
      by_cases ek : k = i
      · subst ek
        split
        · rfl
        · exact h3 o hok e he hbe
      · rw [if_neg ek] at hk
        split
        · rfl
        · exact hc k o hk hok e he hbe
    · rw [get_append]
      split
      · rename_i hw
        rw [vl_cut (k := i + 1) (by omega) fun j k1 k2 k3 k4 => ?_]
        · simp only [vl]
          rw [if_pos ⟨by rw [lst_set hi', if_pos rfl], hw⟩]
        · rw [lst_set hi', if_neg (by omega)] at k3
          exact (hap j k2 (by omega) (.inl ⟨k3, by omega⟩)).ww l (inL_iff.1 hw) (inL_iff.1 k4)
      · rename_i hw
        rw [hst l]
        refine vl_congr fun j hj hwj => ?_
        rw [lst_set hi']
        by_cases ej : j = i
        · subst ej; exact absurd hwj hw
        · rw [if_neg ej]
    · rintro id ((h | ⟨k1, k2⟩) | ⟨s, rfl⟩)
      · exact .inl h
      · refine .inr ⟨k1, ?_⟩
        rw [lst_set hi']
        split
        · rfl
        · exact k2
      · exact .inr ⟨rfl, by rw [lst_set hi', if_pos rfl]⟩
/-- A region whose order is drawn. -/
theorem region_any (hT : TabOk P T) (hΦ : EnvOk P C Φ) {H : Hints} {rid : Nat} {all : Array Oper} (hB : ∀ o ∈ all.toList, opB N o = true) {Q : Exit → Act → World → Prop} (hf : FreshR used rc)
    {G : Ghost} {st st' : S Ω} {a : Act} {w : World} {log' : List LogRow} (ht : Trace T Φ H rid rc all all.toList 0 st [] st' log') (hb : backB 0 all.toList = true) (hi : indepAll (Region.before all) log' = true) (hr : Rep C G N used st a w)
    (hK : ∀ G' a' w', Fr G.ρ w G'.ρ w' → Rep C G' N (usedN used rc) st' a' w' → Q .normal a' w') : wpAny P .any all Q all.size (Array.replicate all.size false) a { w with drawn := w.drawn + 1 } := by
  obtain ⟨R, W, h1, h2, h3, _⟩ := trace_fun ht
  obtain ⟨hr', hfr⟩ := hr.drawn (w.drawn + 1)
  have hl0 : ∀ i, lst (Array.replicate all.size false) i = false := fun i => lst_none
  refine any_ok hT hΦ hB (R := R) (W := W) (st0 := st) (H := H) (rid := rid) hf hb (fun j o ho => by have := h1 j o ho; rwa [Nat.zero_add] at this) (fun i j k1 k2 hne => ?_) (st' := st') (fun l => by rw [h2 l, Array.length_toList]) all.size (Array.replicate all.size false) (by simp) (by rw [todo_all (Nat.le_refl _)]; exact Nat.le_refl _) (fun i o h => by rw [hl0] at h; cases h) (fun l => ?_) (hr'.mono fun _ h => .inl h) (fun G' a' w' k1 k2 => hK G' a' w' (hfr.trans k1) k2)
  · have m1 := h3 i (by simpa using k1)
    have m2 := h3 j (by simpa using k2)
    rw [Nat.zero_add] at m1 m2
    rcases indepAll_spec hi _ m1 _ m2 with h | h
    · exact absurd (congrArg LogRow.i h) hne
    · exact h
  · rw [vl_cut (k := 0) (by omega) fun j _ _ h => (by rw [hl0] at h; cases h)]
    rfl
end
end Go.Proofs.Ytbgefphoochgcaa.FE
/- FE, part 34: code: loops' rule; the ghost cut. -/
namespace Go.Proofs.Ytbgefphoochgcaa.FE
open Go
set_option linter.unusedVariables false
set_option linter.unusedSimpArgs false

/-- A loop, at the begin of a round. -/
def LoopAt (P : Program) (c : Code) (Q : Exit → Act → World → Prop) (a : Act) (w : World) : Prop :=
  ∀ (b : Frame) (k : List Item) (cs : List Frame), ∃ e a' w', Q e a' w' ∧ Arrives P (lone (b.at a (.code c :: .inLoop c :: k)) cs w) b k cs e a' w'
section
variable {P : Program} {c : Code} {Q : Exit → Act → World → Prop} {a : Act} {w : World}
theorem loop_round (h : c.wp P (Exit.then (LoopAt P c Q) Q) a w) : LoopAt P c Q a w := by
  intro b k cs
  obtain ⟨e, a₁, w₁, hq, harr⟩ := h b (.inLoop c :: k) cs
  cases e with
  | normal =>
    obtain ⟨e₂, a₂, w₂, hq₂, harr₂⟩ := hq b k cs
    exact ⟨e₂, a₂, w₂, hq₂, .of_steps (Steps.trans harr (.one step_inLoop)) harr₂⟩
  | exit id => exact ⟨_, a₁, w₁, hq, .pass (x := .inLoop c) rfl (fun _ _ => .inl (by simp)) harr⟩
  | goto l => exact ⟨_, a₁, w₁, hq, .pass (x := .inLoop c) rfl (fun _ _ => .inl (by simp)) harr⟩
  | ret => exact ⟨_, a₁, w₁, hq, .pass (x := .inLoop c) rfl (fun _ _ => .inl (by simp)) harr⟩
  | panic ch => exact ⟨_, a₁, w₁, hq, .pass (x := .inLoop c) rfl (fun _ _ => .inl (by simp)) harr⟩
  | outgrown => exact ⟨_, a₁, w₁, hq, .pass (x := .inLoop c) rfl (fun _ _ => .inl (by simp)) harr⟩
theorem loop_start (h : LoopAt P c Q a w) : (Code.loop c).wp P Q a w := by
  intro b k cs
  obtain ⟨e, a', w', hq, harr⟩ := h b k cs
  exact ⟨e, a', w', hq, .of_steps (.one step_loop) harr⟩
end

/-! ### the ids of what stands somewhere -/
section
variable {Ω : Type} {C : CloRep Ω} {N : Nat} {G : Ghost} {used : Id → Prop} {st : S Ω} {a : Act} {w : World}
def idsL : Leaf Ω → List Id
  | .arr id _ _ => [id] | .omp id _ _ _ => [id] | .ref id _ _ => [id] | .ali _ id => [id] | .avw _ id _ _ _ => [id] | .aptr _ id _ _ _ => [id]
  | .clo _ caps => caps.map (·.1) | .ent _ id0 id _ => [id0, id] | _ => []
def ids1 : AV Ω → List Id
  | .one l => idsL l
  | .agg ls => ls.flatMap idsL
  | .tup vs => []
def idsV : AV Ω → List Id
  | .one l => idsL l
  | .agg ls => ls.flatMap idsL
  | .tup vs => vs.flatMap fun p => ids1 (avOf p.1 p.2)
def Ghost.known (G : Ghost) (id : Id) : Prop := G.Γ id ≠ none ∨ G.β id ≠ none
theorem RepL.known {at_ : Option Loc} {l : Leaf Ω} {v : Value} (h : RepL C G w at_ l v) : ∀ id ∈ idsL l, G.known id := by
  intro id hid
  cases l with
  | arr id' e xs =>
    obtain rfl : id = id' := by simpa [idsL] using hid
    obtain ⟨_, _, ⟨bs, h⟩, _⟩ := h
    exact .inl (by rw [h]; simp)
  | omp id' k u m =>
    obtain rfl : id = id' := by simpa [idsL] using hid
    obtain ⟨_, bs, _, h, _⟩ := h
    exact .inl (by rw [h]; simp)
  | ref id' off n =>
    obtain rfl : id = id' := by simpa [idsL] using hid
    obtain ⟨b, h, _⟩ := h
    exact .inr (by rw [h]; simp)
  | ali l id' =>
    obtain rfl : id = id' := by simpa [idsL] using hid
    obtain ⟨⟨bs, h⟩, _⟩ := h
    exact .inl (by rw [h]; simp)
  | avw l id' sz lo hi =>
    obtain rfl : id = id' := by simpa [idsL] using hid
    obtain ⟨ad, len, cap, bs, h, _⟩ := h
    exact .inl (by rw [h]; simp)
  | aptr l id' sz n off =>
    obtain rfl : id = id' := by simpa [idsL] using hid
    obtain ⟨b, o, len, cap, bs, h, _⟩ := h
    exact .inl (by rw [h]; simp)
  | clo f caps =>
    obtain ⟨bs, hl, h, _⟩ := h
    simp only [idsL, List.mem_map] at hid
    obtain ⟨c, hc, rfl⟩ := hid
    obtain ⟨i, hi, e⟩ := List.getElem_of_mem hc
    have hi' : i < bs.length := by omega
    have := h i bs[i] c (List.getElem?_eq_getElem hi') (by rw [List.getElem?_eq_getElem hi, e])
    exact .inr (by rw [this]; simp)
  | ent l id0 id' j =>
    obtain ⟨u, bs, n, h1, ⟨bs0, h2⟩, _⟩ := h
    simp only [idsL, List.mem_cons, List.not_mem_nil, or_false] at hid
    rcases hid with rfl | rfl
    · exact .inl (by rw [h2]; simp)
    · exact .inl (by rw [h1]; simp)
  | _ => cases hid
def Ghost.cut (G : Ghost) (p : Id → Bool) : Ghost := { G with Γ := fun id => if p id then G.Γ id else none, β := fun id => if p id then G.β id else none }
theorem RepL.cut {p : Id → Bool} {at_ : Option Loc} {l : Leaf Ω} {v : Value} (h : RepL C G w at_ l v) (hp : ∀ id ∈ idsL l, p id = true) : RepL C (G.cut p) w at_ l v := by
  have gΓ : ∀ {id x}, p id = true → G.Γ id = some x → (G.cut p).Γ id = some x := fun h1 h2 => by simp [Ghost.cut, h1, h2]
  have gβ : ∀ {id x}, p id = true → G.β id = some x → (G.cut p).β id = some x := fun h1 h2 => by simp [Ghost.cut, h1, h2]
  cases l with
  | arr id e xs => obtain ⟨l, e1, ⟨bs, h1⟩, h2⟩ := h; exact ⟨l, e1, ⟨bs, gΓ (hp id (by simp [idsL])) h1⟩, h2⟩
  | omp id k u m => obtain ⟨l, bs, e1, h1, h2⟩ := h; exact ⟨l, bs, e1, gΓ (hp id (by simp [idsL])) h1, h2⟩
  | ref id off n => obtain ⟨b, h1, h2⟩ := h; exact ⟨b, gβ (hp id (by simp [idsL])) h1, h2⟩
  | ali l id => obtain ⟨⟨bs, h1⟩, h2⟩ := h; exact ⟨⟨bs, gΓ (hp id (by simp [idsL])) h1⟩, h2⟩
  | avw l id sz lo hi => obtain ⟨ad, len, cap, bs, h1, h2⟩ := h; exact ⟨ad, len, cap, bs, gΓ (hp id (by simp [idsL])) h1, h2⟩
  | aptr l id sz n off => obtain ⟨b, o, len, cap, bs, h1, h2⟩ := h; exact ⟨b, o, len, cap, bs, gΓ (hp id (by simp [idsL])) h1, h2⟩
  | clo f caps =>
    obtain ⟨bs, hl, h1, h2⟩ := h
    exact ⟨bs, hl, fun i b c hb hc => gβ (hp c.1 (by simp only [idsL, List.mem_map]; exact ⟨c, List.mem_of_getElem? hc, rfl⟩)) (h1 i b c hb hc), h2⟩
  | ent l id0 id j => obtain ⟨u, bs, n, h1, ⟨bs0, h2⟩, h3⟩ := h; exact ⟨u, bs, n, gΓ (hp id (by simp [idsL])) h1, ⟨bs0, gΓ (hp id0 (by simp [idsL])) h2⟩, h3⟩
  | _ => exact h
theorem ids_all2 {ls : List (Leaf Ω)} {vs : List Value} (h : All2 (RepL C G w none) ls vs) : ∀ id ∈ ls.flatMap idsL, G.known id := by
  induction h with
  | nil => intro id h; cases h
  | cons h _ ih =>
    intro id hid
    rw [List.flatMap_cons, List.mem_append] at hid
    rcases hid with h' | h'
    · exact h.known id h'
    · exact ih id h'
theorem RepAV1.known {at_ : Option Loc} {u : AV Ω} {v : Value} (h : RepAV1 C G w at_ u v) : ∀ id ∈ ids1 u, G.known id := by
  cases u with
  | one l => exact RepL.known (C := C) (w := w) h
  | agg ls => obtain ⟨vs, _, h⟩ := h; exact ids_all2 h
  | tup vs => exact h.elim
theorem All2.cut {p : Id → Bool} {ls : List (Leaf Ω)} {vs : List Value} (h : All2 (RepL C G w none) ls vs) (hp : ∀ id ∈ ls.flatMap idsL, p id = true) : All2 (RepL C (G.cut p) w none) ls vs := by
  induction h with
  | nil => exact .nil
  | cons h _ ih =>
    rw [List.flatMap_cons] at hp
    exact .cons (h.cut fun id hi => hp id (List.mem_append.2 (.inl hi))) (ih fun id hi => hp id (List.mem_append.2 (.inr hi)))
theorem RepAV1.cut {p : Id → Bool} {at_ : Option Loc} {u : AV Ω} {v : Value} (h : RepAV1 C G w at_ u v) (hp : ∀ id ∈ ids1 u, p id = true) : RepAV1 C (G.cut p) w at_ u v := by
  cases u with
  | one l => exact RepL.cut (C := C) (w := w) h hp
  | agg ls => obtain ⟨vs, e, h⟩ := h; exact ⟨vs, e, All2.cut h hp⟩
  | tup vs => exact h.elim
theorem RepAV.known {at_ : Option Loc} {u : AV Ω} {v : Value} (h : RepAV C G w at_ u v) : ∀ id ∈ idsV u, G.known id := by
  cases u with
  | one l => exact RepAV1.known (C := C) (w := w) (u := .one l) h
  | agg ls => exact RepAV1.known (C := C) (w := w) (at_ := at_) (u := .agg ls) h
  | tup ps =>
    obtain ⟨us, _, h⟩ := h
    generalize us.toList = vs at h
    induction h with
    | nil => intro id h; cases h
    | cons h _ ih =>
      intro id hid
      simp only [idsV, List.flatMap_cons, List.mem_append] at hid ih
      rcases hid with h' | h'
      · exact RepAV1.known h id h'
      · exact ih id h'
theorem RepAV.cut {p : Id → Bool} {at_ : Option Loc} {u : AV Ω} {v : Value} (h : RepAV C G w at_ u v) (hp : ∀ id ∈ idsV u, p id = true) : RepAV C (G.cut p) w at_ u v := by
  cases u with
  | one l => exact RepAV1.cut (C := C) (w := w) (u := .one l) h hp
  | agg ls => exact RepAV1.cut (C := C) (w := w) (at_ := at_) (u := .agg ls) h hp
  | tup ps =>
    obtain ⟨us, e, h⟩ := h
    refine ⟨us, e, ?_⟩
    generalize us.toList = vs at h ⊢
    induction h with
    | nil => exact .nil
    | cons h _ ih =>
      simp only [idsV, List.flatMap_cons, List.mem_append] at hp ih
      exact .cons (RepAV1.cut h fun id hi => hp id (.inl hi)) (ih fun id hi => hp id (.inr hi))
theorem av1_tup {at_ : Option Loc} {u : AV Ω} {v : Value} (h : RepAV1 C G w at_ u v) : RepAV C G w at_ u v := by
  cases u with
  | one l => exact h
  | agg ls => exact h
  | tup vs => exact h.elim
theorem ids_one {at_ : Option Loc} {u : AV Ω} {v : Value} (h : RepAV1 C G w at_ u v) : ids1 u = idsV u := by
  cases u with
  | one l => rfl
  | agg ls => rfl
  | tup vs => exact h.elim
theorem RepAt.known {l : Loc} {u : AV Ω} (h : RepAt C G a w l u) : ∀ id ∈ idsV u, G.known id := by
  intro id hid
  cases l with
  | tmp t => exact RepAV.known (C := C) (w := w) (at_ := some (.tmp t)) h id hid
  | comp t n =>
    rcases h with h | ⟨v, h⟩
    · subst h; cases hid
    · exact (av1_tup h).known id hid
  | box id' j =>
    rcases h with h | ⟨b, n, v, _, _, h⟩
    · subst h; cases hid
    · exact (av1_tup h).known id hid
  | om =>
    rcases h with h | ⟨s, h, _⟩ <;> subst h <;> cases hid
theorem RepAt.cut {p : Id → Bool} {l : Loc} {u : AV Ω} (h : RepAt C G a w l u) (hp : ∀ id ∈ idsV u, p id = true) (hl : ∀ id j, l = .box id j → u = .one .dead ∨ p id = true) : RepAt C (G.cut p) a w l u := by
  cases l with
  | tmp t => exact RepAV.cut (C := C) (w := w) (at_ := some (.tmp t)) h hp
  | comp t n =>
    rcases h with h | ⟨v, h⟩
    · exact .inl h
    · exact .inr ⟨v, h.cut (by rw [ids_one h]; exact hp)⟩
  | box id' j =>
    rcases h with h | ⟨b, n, v, h1, h2, h⟩
    · exact .inl h
    · rcases hl id' j rfl with hd | hd
      · exact .inl hd
      · exact .inr ⟨b, n, v, by simp [Ghost.cut, hd, h1], h2, h.cut (by rw [ids_one h]; exact hp)⟩
  | om => exact h
/-- The ghost is cut: what stands behind is dead, or stood there and knows only ids that are kept. -/
theorem Rep.cut {p : Id → Bool} {st2 : S Ω} (hr : Rep C G N used st a w) (h : ∀ l, S.get st2 l = .one .dead ∨ (S.get st2 l = S.get st l ∧ (∀ id ∈ idsV (S.get st l), p id = true) ∧ ∀ id j, l = .box id j → p id = true)) : Rep C (G.cut p) N (fun id => p id = true) st2 a w where
  at_ l := by
    rcases h l with h | ⟨h1, h2, h3⟩
    · rw [h]; exact RepAt.dead'
    · rw [h1]; exact (hr.at_ l).cut h2 fun id j e => .inr (h3 id j e)
  size := hr.size
  defers := hr.defers
  box id b n hb := by
    have : G.β id = some (b, n) := by
      have hb' : (if p id then G.β id else none) = some (b, n) := hb
      split at hb'
      · exact hb'
      · cases hb'
    exact hr.box id b n this
  usedΓ id hi := by
    cases hp : p id with
    | true => rfl
    | false => exact absurd (show (if p id then G.Γ id else none) = none by rw [hp]; rfl) hi
  usedβ id hi := by
    cases hp : p id with
    | true => rfl
    | false => exact absurd (show (if p id then G.β id else none) = none by rw [hp]; rfl) hi
  lt := hr.lt
end
end Go.Proofs.Ytbgefphoochgcaa.FE
/- FE, part 35: what is kept at loops' heads and where ways meet. -/
namespace Go.Proofs.Ytbgefphoochgcaa.FE
open Go
set_option linter.unusedVariables false
set_option linter.unusedSimpArgs false
section
variable {Ω : Type} {C : CloRep Ω} {N : Nat} {G : Ghost} {used : Id → Prop} {st : S Ω} {a : Act} {w : World}

/-- A place of a shape: the value that stands there, and its datum. -/
def SlotRep (G : Ghost) (a : Act) (w : World) (l : Loc) (s : LS) (d : DL) : Prop :=
  ∃ v, ValAt G a w l v ∧ (match s with | .dat t => ∃ x, d = ⟨t, x⟩ ∧ RepV w G.O t x v | s => LSRep G.ρ w (.at_ l) s d v)
theorem RepAt.get {l : Loc} {u : AV Ω} (h : RepAt C G a w l u) (hd : u ≠ .one .dead) (ht : ∀ vs, u ≠ .tup vs) (ho : ∀ s, u ≠ .one (.opq s)) : ∃ v, ValAt G a w l v ∧ RepAV1 C G w (some l) u v := by
  cases l with
  | tmp t =>
    refine ⟨a.tmps.getD t undef, rfl, ?_⟩
    have h' : RepAV C G w (some (.tmp t)) u (a.tmps.getD t undef) := h
    cases u with
    | one l => exact h'
    | agg ls => exact h'
    | tup vs => exact absurd rfl (ht vs)
  | comp t n =>
    rcases h with h | ⟨v, h⟩
    · exact absurd h hd
    · exact ⟨v, trivial, h⟩
  | box id j =>
    rcases h with h | ⟨b, n, v, h1, h2, h3⟩
    · exact absurd h hd
    · exact ⟨v, ⟨b, n, h1, h2⟩, h3⟩
  | om =>
    rcases h with h | ⟨s, h, _⟩
    · exact absurd h hd
    · exact absurd h (ho s)
theorem sized_of_dat {u : AV Ω} (ht : ∀ vs, u ≠ .tup vs) (h : ∀ l ∈ leavesOf u, datL l = true) : sizedV u = true := by
  have live : ∀ l : Leaf Ω, datL l = true → liveL l = true := by intro l h; cases l <;> first | rfl | cases h
  cases u with
  | one l => exact live l (h l (by simp [leavesOf]))
  | agg ls =>
    have : ∀ ls : List (Leaf Ω), (∀ l ∈ ls, datL l = true) → allLive ls = true := by
      intro ls
      induction ls with
      | nil => intro _; rfl
      | cons x r ih => intro h; simp only [allLive, live x (h x (by simp))]; exact ih fun l hl => h l (by simp [hl])
    exact this ls h
  | tup vs => exact absurd rfl (ht vs)
theorem slot_rep {l : Loc} {s : LS} {d : DL} (hr : Rep C G N used st a w) (h : slotLS s (st.get l) = some d) : SlotRep G a w l s d := by
  have ht : ∀ vs, st.get l ≠ .tup vs := by
    intro vs e
    rw [e] at h
    cases s <;> cases h
  have hat := hr.at_ l
  cases s with
  | dat t =>
    simp only [slotLS] at h
    split at h
    · rename_i hb
      have hb := ((Bool.and_eq_true _ _).mp hb).2
      simp only [Option.map_eq_some_iff] at h
      obtain ⟨x, hx, rfl⟩ := h
      have hdat := packAll_dat hx
      have hd : st.get l ≠ .one .dead := by
        intro e; rw [e] at hdat; cases hdat _ (List.mem_cons_self)
      have ho : ∀ s, st.get l ≠ .one (.opq s) := by
        intro s e; rw [e] at hdat; cases hdat _ (List.mem_cons_self)
      obtain ⟨v, hv, h1⟩ := hat.get hd ht ho
      have hn : RepAV C G w none (st.get l) v := by
        generalize st.get l = u at *
        cases u with
        | one lf =>
          have := hdat lf (by simp [leavesOf])
          cases lf <;> first | exact h1 | cases this
        | agg ls => exact h1
        | tup vs => exact h1.elim
      exact ⟨v, hv, x, rfl, repV_of (bothB_iff hb) (shape_of hn (sized_of_dat ht hdat)) (packAll_rep hx (leaves_rep hn (sized_of_dat ht hdat)))⟩
    · cases h
  | arr e =>
    have h' : leafLS (.arr e) (st.get l) = some d := h
    have hd : st.get l ≠ .one .dead := by intro e'; rw [e'] at h'; cases h'
    have ho : ∀ s, st.get l ≠ .one (.opq s) := by intro s e'; rw [e'] at h'; cases h'
    obtain ⟨v, hv, h1⟩ := hat.get hd ht ho
    refine ⟨v, hv, ?_⟩
    generalize st.get l = u at *
    cases u with
    | one lf =>
      cases lf with
      | arr id e' xs =>
        simp only [leafLS, Option.map_eq_some_iff] at h'
        obtain ⟨ys, hc, rfl⟩ := h'
        obtain ⟨ee, rfl⟩ := cast_eq hc
        cases ee
        obtain ⟨l', e3, _, ha⟩ := h1
        cases e3
        exact ⟨_, rfl, ha⟩
      | nilS =>
        cases h'
        exact ⟨[], rfl, .inl ⟨rfl, h1⟩⟩
      | _ => cases h'
    | _ => cases h'
  | omp k m =>
    have h' : leafLS (.omp k m) (st.get l) = some d := h
    have hd : st.get l ≠ .one .dead := by intro e'; rw [e'] at h'; cases h'
    have ho : ∀ s, st.get l ≠ .one (.opq s) := by intro s e'; rw [e'] at h'; cases h'
    obtain ⟨v, hv, h1⟩ := hat.get hd ht ho
    refine ⟨v, hv, ?_⟩
    generalize st.get l = u at *
    cases u with
    | one lf =>
      cases lf with
      | omp id k' m' mm =>
        simp only [leafLS, Option.map_eq_some_iff] at h'
        obtain ⟨ys, hc, rfl⟩ := h'
        obtain ⟨ee, rfl⟩ := cast_eq hc
        cases ee
        obtain ⟨l', bs, e3, _, ha⟩ := h1
        cases e3
        exact ⟨_, bs, rfl, ha⟩
      | _ => cases h'
    | _ => cases h'
variable {rc : Nat}
theorem SlotRep.ghost {G' : Ghost} (h1 : G'.ρ = G.ρ) (h2 : G'.β = G.β) {l : Loc} {s : LS} {d : DL} (h : SlotRep G a w l s d) : SlotRep G' a w l s d := by
  obtain ⟨Γ, β, ρ⟩ := G
  obtain ⟨Γ', β', ρ'⟩ := G'
  cases h1
  cases h2
  obtain ⟨v, hv, h⟩ := h
  exact ⟨v, hv.congr rfl, h⟩
theorem slot_put {n : Nat} (hr : Rep C G N (usedF used rc 1 (n + 1)) st a w) (hn : ¬ used (rc, 1, n)) {l : Loc} {s : LS} {d : DL} (h : SlotRep G a w l s d) :
    ∃ G', G'.ρ = G.ρ ∧ G'.β = G.β ∧ Rep C G' N (usedF used rc 1 n) ([(l, slotV (rc, 1, n) s d)] ++ st) a w := by
  obtain ⟨v, hv, h⟩ := h
  have hfr := usedF_lt hn (Nat.lt_succ_self n)
  have name : ∀ bs, Rep C (G.name (rc, 1, n) v bs) N (usedF used rc 1 n) st a w := fun bs => hr.name hfr v bs (usedF_mono (by omega)) (.inr ⟨n, by omega, rfl⟩)
  cases s with
  | dat t =>
    obtain ⟨x, rfl, hx⟩ := h
    have hav : RepAV C G w none (avOf (rowB t) (unpack t x)) v := by
      unfold RepV Val at hx
      cases hb : rowB t with
      | true =>
        rw [hb] at hx
        obtain ⟨cs, rfl, hx⟩ := hx
        exact avOf_rep (unpack_rep hx) rfl
      | false =>
        rw [hb] at hx
        exact avOf_rep (unpack_rep hx) rfl
    have e : slotV (Ω := Ω) (rc, 1, n) (.dat t) ⟨t, x⟩ = avOf (rowB t) (unpack t x) := by
      simp only [slotV, cast_self]
    rw [e]
    exact ⟨G, rfl, rfl, (hr.mono (usedF_mono (by omega))).putAt (RepAV1.of avOf_ne hav) hv⟩
  | arr e =>
    obtain ⟨xs, rfl, ha⟩ := h
    have e : slotV (Ω := Ω) (rc, 1, n) (.arr e) ⟨.sl e, xs⟩ = .one (.arr (rc, 1, n) e xs) := by
      simp only [slotV, cast_self]
    rw [e]
    exact ⟨G.name (rc, 1, n) v [], rfl, rfl, (name []).putAt (u := .one (.arr (rc, 1, n) _ xs)) (v := v) ⟨l, rfl, ⟨[], name_at⟩, ha⟩ hv⟩
  | omp k u =>
    obtain ⟨m, bs, rfl, ha⟩ := h
    have e : slotV (Ω := Ω) (rc, 1, n) (.omp k u) ⟨.mp k u, m⟩ = .one (.omp (rc, 1, n) k u m) := by
      simp only [slotV, cast_self]
    rw [e]
    exact ⟨G.name (rc, 1, n) v bs, rfl, rfl, (name bs).putAt (u := .one (.omp (rc, 1, n) k u m)) (v := v) ⟨l, bs, rfl, name_at, ha⟩ hv⟩
theorem unslots_put : ∀ (ls : List (Loc × LS)) (ds : List DL) (n : Nat) {G : Ghost}, Rep C G N used st a w → (∀ k, ¬ used (rc, 1, k)) → All2 (fun (p : Loc × LS) d => SlotRep G a w p.1 p.2 d) ls ds →
    ∃ G', G'.ρ = G.ρ ∧ G'.β = G.β ∧ Rep C G' N (usedF used rc 1 n) (unslots rc n ls ds ++ st) a w
  | [], [], n, G, hr, hn, h => ⟨G, rfl, rfl, hr.mono fun _ h => .inl h⟩
  | [], _ :: _, n, G, hr, hn, h => by cases h
  | _ :: _, [], n, G, hr, hn, h => by cases h
  | (l, s) :: ls, d :: ds, n, G, hr, hn, h => by
    cases h with
    | cons h1 h2 =>
      obtain ⟨G1, e1, e2, hr1⟩ := unslots_put ls ds (n + 1) hr hn h2
      obtain ⟨G2, e3, e4, hr2⟩ := slot_put hr1 (hn n) (h1.ghost e1 e2)
      exact ⟨G2, e3.trans e1, e4.trans e2, hr2⟩
end
end Go.Proofs.Ytbgefphoochgcaa.FE
/- FE, part 36: where ways meet, and at a loop's head. -/
namespace Go.Proofs.Ytbgefphoochgcaa.FE
open Go
set_option linter.unusedVariables false
set_option linter.unusedSimpArgs false
section
variable {Ω : Type} {C : CloRep Ω} {N : Nat} {G G0 : Ghost} {used : Id → Prop} {st st0 st' : S Ω} {a a0 : Act} {w w0 : World} {rc : Nat}

/-- The ids before this stamp. -/
def usedB (rc : Nat) : Id → Prop := fun id => id.1 < rc
theorem sinceB_spec {om : Bool} {ls : List (Loc × LS)} {base : S Ω} : ∀ {ws : List (Loc × AV Ω)}, sinceB om ls base ws = true → ∀ l, inL l (ws.map (·.1)) = true → inL l (ls.map (·.1)) = true ∨ S.get base l = .one .dead ∨ (om = true ∧ l = .om)
  | [], _, l, h => by cases h
  | p :: r, h, l, hl => by
    simp only [sinceB] at h
    split at h
    · rename_i hb
      rw [List.map_cons, inL_iff, List.mem_cons] at hl
      rcases hl with rfl | hl
      · rw [Bool.or_eq_true, Bool.or_eq_true, Bool.and_eq_true] at hb
        rcases hb with (hb | hb) | hb
        · exact .inl hb
        · refine .inr (.inl ?_)
          unfold deadV at hb
          split at hb
          · rename_i e; exact e
          · cases hb
        · exact .inr (.inr ⟨hb.1, locB_iff.1 hb.2⟩)
      · exact sinceB_spec h l (inL_iff.2 hl)
    · cases h
theorem sinceS_ext {ws : S Ω} : sinceS (ws ++ st0) st0 = ws := by
  unfold sinceS
  rw [List.length_append, Nat.add_sub_cancel, List.take_left' rfl]
theorem slots_rep (hr : Rep C G N used st' a w) : ∀ {ls : List (Loc × LS)} {ds : List DL}, slots st' ls = some ds → All2 (fun (p : Loc × LS) d => SlotRep G a w p.1 p.2 d) ls ds
  | [], ds, h => by cases h; exact .nil
  | (l, s) :: r, ds, h => by
    simp only [slots, Option.bind_eq_some_iff] at h
    obtain ⟨d, hd, ds', hds, h⟩ := h
    cases h
    exact .cons (slot_rep hr hd) (slots_rep hr hds)

/-! ### what stands where ways meet -/
def deadsL (ls : List (Loc × LS)) : S Ω := ls.map fun p => (p.1, AV.one .dead)
theorem get_mapDead {α : Type} {f : α → Loc} : ∀ {ls : List α} {l : Loc}, S.get (ls.map fun p => (f p, (AV.one .dead : AV Ω))) l = .one .dead
  | [], l => rfl
  | p :: r, l => by
    show (match locB (f p) l with | true => (AV.one .dead : AV Ω) | false => S.get (r.map fun p => (f p, (AV.one .dead : AV Ω))) l) = _
    split
    · rfl
    · exact get_mapDead
theorem unOut_len : ∀ {ts : List Ty} {y : El (outTy ts)}, (unOut ts y).length = ts.length
  | [], y => rfl
  | [t], y => rfl
  | t :: s :: ts, y => by simp only [unOut, List.length_cons]; rw [unOut_len (ts := s :: ts)]; rfl
theorem unslots_fst : ∀ {ls : List (Loc × LS)} {ds : List DL} {n : Nat}, ds.length = ls.length → (unslots (Ω := Ω) rc n ls ds).map (·.1) = ls.map (·.1)
  | [], _, n, h => by simp [unslots]
  | _ :: _, [], n, h => by cases h
  | (l, s) :: r, d :: ds, n, h => by
    simp only [unslots, List.map_cons]
    rw [unslots_fst (by simpa using h)]
theorem unpackS_fst {ls : List (Loc × LS)} {y : El (outTy (shTys ls))} : (unpackS (Ω := Ω) rc ls y).map (·.1) = ls.map (·.1) :=
  unslots_fst (by rw [unOut_len]; simp [shTys])
theorem SlotRep.cut {p : Id → Bool} {l : Loc} {s : LS} {d : DL} (h : SlotRep G a w l s d) (hl : ∀ id j, l = .box id j → p id = true) : SlotRep (G.cut p) a w l s d := by
  obtain ⟨v, hv, h⟩ := h
  refine ⟨v, ?_, h⟩
  cases l with
  | box id j => obtain ⟨b, n, h1, h2⟩ := hv; exact ⟨b, n, by simp [Ghost.cut, hl id j rfl, h1], h2⟩
  | _ => exact hv
theorem slots_cut {p : Id → Bool} : ∀ {ls : List (Loc × LS)} {ds : List DL}, All2 (fun (p : Loc × LS) d => SlotRep G a w p.1 p.2 d) ls ds → (∀ q ∈ ls, ∀ id j, q.1 = .box id j → p id = true) → All2 (fun (q : Loc × LS) d => SlotRep (G.cut p) a w q.1 q.2 d) ls ds
  | [], _, h, hp => by cases h; exact .nil
  | q :: r, _, h, hp => by
    cases h with
    | cons h1 h2 => exact .cons (h1.cut (hp q (by simp))) (slots_cut h2 fun q hq => hp q (by simp [hq]))
/-- Old ids only. -/
def OldAt (rc : Nat) (st : S Ω) (l : Loc) : Prop := S.get st l = .one .dead ∨ ((∀ id ∈ idsV (S.get st l), id.1 < rc) ∧ ∀ id j, l = .box id j → id.1 < rc)
def OldSh (rc : Nat) (sh : List (Loc × LS)) : Prop := ∀ q ∈ sh, ∀ id j, q.1 = .box id j → id.1 < rc
def SameB (hof : Bool) (sh : List (Loc × LS)) (base st' : S Ω) : Prop := ∀ l, inL l (sh.map (·.1)) = false → (hof = true → l ≠ .om) → S.get base l = .one .dead ∨ S.get base l = S.get st' l
theorem join_put {sh : List (Loc × LS)} {base : S Ω} {y : El (outTy (shTys sh))} (hr : Rep C G N used st' a w) (hb : ∀ l, OldAt rc base l) (hsh : OldSh rc sh) (hsame : SameB false sh base st') (hp : packS st' sh = some y) :
    ∃ G', G'.ρ = G.ρ ∧ Rep C G' N (usedB (rc + 1)) (unpackS rc sh y ++ base) a w := by
  simp only [packS, Option.bind_eq_some_iff] at hp
  obtain ⟨ds, hds, hy⟩ := hp
  have hun := mkOut_un hy
  have h1 : Rep C (G.cut fun id => decide (id.1 < rc)) N (fun id => decide (id.1 < rc) = true) (deadsL sh ++ base) a w := by
    refine hr.cut (p := fun id => decide (id.1 < rc)) fun l => ?_
    have hfst : (deadsL (Ω := Ω) sh).map (·.1) = sh.map (·.1) := by simp [deadsL]
    cases hl : inL l (sh.map (·.1)) with
    | true => rw [get_in (by rw [hfst]; exact hl)]; exact .inl get_mapDead
    | false =>
      rw [get_out (by rw [hfst]; exact hl)]
      rcases hb l with h | ⟨h2, h3⟩
      · exact .inl h
      · rcases hsame l hl (by simp) with h | h
        · exact .inl h
        · rw [h] at h2 ⊢
          exact .inr ⟨rfl, fun id hi => by simpa using h2 id hi, fun id j e => by simpa using h3 id j e⟩
  have h2 := slots_cut (p := fun id => decide (id.1 < rc)) (slots_rep hr hds) (fun q hq id j e => by simpa using hsh q hq id j e)
  obtain ⟨G', e1, e2, h3⟩ := unslots_put (rc := rc) sh ds 0 h1 (fun k => by simp) h2
  refine ⟨G', e1, (h3.mono ?_).congr fun l => ?_⟩
  · rintro id (h | ⟨s, _, rfl⟩)
    · have : id.1 < rc := by simpa using h
      show id.1 < rc + 1
      omega
    · show rc < rc + 1
      omega
  · have e : unpackS (Ω := Ω) rc sh y = unslots rc 0 sh ds := by unfold unpackS; rw [hun]
    rw [e]
    have hfst : (unslots (Ω := Ω) rc 0 sh ds).map (·.1) = sh.map (·.1) := by rw [← e]; exact unpackS_fst
    cases hl : inL l (sh.map (·.1)) with
    | true => rw [get_in (by rw [hfst]; exact hl), get_in (by rw [hfst]; exact hl)]
    | false =>
      rw [get_out (by rw [hfst]; exact hl), get_out (by rw [hfst]; exact hl), get_out]
      simpa [deadsL, Function.comp_def] using hl
theorem join_putH {hof : Bool} {sh : List (Loc × LS)} {base : S Ω} {y : LT hof Ω (outTy (shTys sh))} (hr : Rep C G N used st' a w) (hb : ∀ l, OldAt rc base l) (hsh : OldSh rc sh) (hsame : SameB hof sh base st') (hp : packH hof st' sh = some y) :
    ∃ G', G'.ρ = G.ρ ∧ Rep C G' N (usedB (rc + 1)) (unpackH hof rc sh y ++ base) a w := by
  cases hof with
  | false => exact join_put hr hb hsh hsame hp
  | true =>
    simp only [packH] at hp
    split at hp
    · rename_i s hs
      simp only [Option.bind_eq_some_iff] at hp
      obtain ⟨x, hx, hy⟩ := hp
      cases hy
      have k1 : ∀ l, OldAt rc ([(.om, .one .dead)] ++ base) l := fun l => by
        by_cases h : Loc.om = l
        · subst h; exact .inl (by simp [S.get, locB_self])
        · have := hb l
          unfold OldAt at this ⊢
          simp only [List.cons_append, List.nil_append, S.get, locB_ne h]
          exact this
      have k2 : SameB false sh ([(.om, .one .dead)] ++ base) st' := fun l hl _ => by
        by_cases h : Loc.om = l
        · subst h; exact .inl (by simp [S.get, locB_self])
        · simp only [List.cons_append, List.nil_append, S.get, locB_ne h]
          exact hsame l hl fun _ e => h e.symm
      obtain ⟨G', e1, h1⟩ := join_put hr k1 hsh k2 hx
      refine ⟨G', e1, (Rep.putR (l := .om) (u := .one (.opq s)) h1 ?_).congr fun l => ?_⟩
      · have h2 := hr.at_ .om
        rw [hs] at h2
        rcases h2 with h | ⟨s', e, h⟩
        · cases h
        · exact .inr ⟨s', e, by unfold Ghost.O; rw [e1]; exact h⟩
      · show S.get (((.om, .one (.opq s)) :: unpackS rc sh x) ++ base) l = S.get ((.om, .one (.opq s)) :: (unpackS rc sh x ++ ((.om, .one .dead) :: base))) l
        simp only [List.cons_append, S.get]
        by_cases h : Loc.om = l
        · subst h; simp [locB_self]
        · simp only [locB_ne h]
          cases hl : inL l ((unpackS (Ω := Ω) rc sh x).map (·.1)) with
          | true => rw [get_in hl, get_in hl]
          | false => rw [get_out hl, get_out hl]; simp [S.get, locB_ne h]
    · cases hp
theorem old_at (hr : Rep C G N (usedB rc) st a w) (l : Loc) : OldAt rc st l := by
  by_cases hd : S.get st l = .one .dead
  · exact .inl hd
  · refine .inr ⟨fun id hi => ?_, fun id j e => ?_⟩
    · rcases (hr.at_ l).known id hi with h | h
      · exact hr.usedΓ id h
      · exact hr.usedβ id h
    · subst e
      rcases hr.at_ (.box id j) with h | ⟨b, n, v, h, _⟩
      · exact absurd h hd
      · exact hr.usedβ id (by rw [h]; simp)
theorem kill_get {c : Code} {l : Loc} : S.get (kill c st) l = .one .dead ∨ S.get (kill c st) l = S.get st l := by
  unfold kill
  rw [get_append]
  split
  · exact .inl (get_mapDead (f := Loc.tmp))
  · exact .inr rfl
theorem old_kill (hr : Rep C G N (usedB rc) st a w) (c : Code) (l : Loc) : OldAt rc (kill c st) l := by
  rcases kill_get (st := st) (c := c) (l := l) with h | h
  · exact .inl h
  · unfold OldAt; rw [h]; exact old_at hr l
theorem old_resolve (hr : Rep C G N (usedB rc) st a w) : ∀ {sl : SL} {sh : List (Loc × LS)}, resolveAll st sl = some sh → OldSh rc sh
  | [], sh, h => by cases h; intro q hq; cases hq
  | (p, s) :: r, sh, h => by
    simp only [resolveAll, Option.bind_eq_some_iff] at h
    obtain ⟨l, hl, ls, hls, h⟩ := h
    cases h
    intro q hq id j e
    rcases List.mem_cons.1 hq with rfl | hq
    · cases p with
      | tmp t => cases hl; cases e
      | bx t k =>
        simp only [resolve] at hl
        split at hl
        · rename_i id' off n hg
          cases hl
          cases e
          rcases old_at hr (.tmp t) with h | ⟨h, _⟩
          · rw [hg] at h; cases h
          · exact h _ (by rw [hg]; simp [idsV, idsL])
        · cases hl
    · exact old_resolve hr hls q hq id j e
/-- What a way leaves, at its end. -/
theorem same_join {hof : Bool} {sh : List (Loc × LS)} {c : Code} {ws : S Ω} (h : sinceB hof sh (kill c st) (sinceS (ws ++ st) st) = true) : SameB hof sh (kill c st) (ws ++ st) := by
  rw [sinceS_ext] at h
  intro l hl ho
  cases hw : inL l (ws.map (·.1)) with
  | true =>
    rcases sinceB_spec h l hw with h | h | ⟨h, e⟩
    · rw [h] at hl; cases hl
    · exact .inl h
    · exact absurd e (ho h)
  | false => rw [get_out hw]; exact kill_get
theorem unpackH_out {hof : Bool} {sh : List (Loc × LS)} {y : LT hof Ω (outTy (shTys sh))} {l : Loc} (hl : inL l (sh.map (·.1)) = false) (ho : hof = true → l ≠ .om) : inL l ((unpackH hof rc sh y).map (·.1)) = false := by
  cases hof with
  | false => show inL l ((unpackS rc sh y).map (·.1)) = false; rw [unpackS_fst]; exact hl
  | true =>
    show inL l (Loc.om :: ((unpackS (Ω := Ω) rc sh y.1).map (·.1))) = false
    rw [unpackS_fst]
    have : Loc.om ≠ l := fun e => ho rfl e.symm
    simp only [inL, locB_ne this, hl]
theorem same_loop {hof : Bool} {sh : List (Loc × LS)} {base ws : S Ω} {y : LT hof Ω (outTy (shTys sh))} (h : sinceB hof sh base (sinceS (ws ++ (unpackH hof rc sh y ++ base)) (unpackH hof rc sh y ++ base)) = true) : SameB hof sh base (ws ++ (unpackH hof rc sh y ++ base)) := by
  rw [sinceS_ext] at h
  intro l hl ho
  cases hw : inL l (ws.map (·.1)) with
  | true =>
    rcases sinceB_spec h l hw with h | h | ⟨h, e⟩
    · rw [h] at hl; cases hl
    · exact .inl h
    · exact absurd e (ho h)
  | false => rw [get_out hw, get_out (unpackH_out hl ho)]; exact .inr rfl
theorem same_start {hof : Bool} {sh : List (Loc × LS)} {c : Code} : SameB hof sh (kill c st) st := fun _ _ _ => kill_get
end
end Go.Proofs.Ytbgefphoochgcaa.FE
/- FE, part 34a: temporaries that nothing writes keep their value. -/
namespace Go.Proofs.Ytbgefphoochgcaa.FE
open Go
set_option linter.unusedVariables false
set_option linter.unusedSimpArgs false
section
variable {P : Program} {ps : List Nat} {ops : Array Oper}
/-- The temporaries of the list stand as they stood. -/
def Keep (ps : List Nat) (a a' : Act) : Prop := ∀ t ∈ ps, a'.tmps.getD t undef = a.tmps.getD t undef
theorem Keep.refl {a : Act} : Keep ps a a := fun _ _ => rfl
theorem Keep.trans {a b c : Act} (h : Keep ps a b) (k : Keep ps b c) : Keep ps a c := fun t ht => (k t ht).trans (h t ht)
def pinO (ps : List Nat) (o : Oper) : Bool := match o.dst with | some d => !(ps.contains d) | none => true
theorem keep_put {o : Oper} (h : pinO ps o = true) {a : Act} {v : Value} : Keep ps a (a.put o.dst v) := by
  intro t ht
  unfold pinO at h
  cases hd : o.dst with
  | none => rfl
  | some d =>
    rw [hd] at h
    refine getD_put_ne fun e => ?_
    subst e
    simp at h
    exact h ht
/-- What is asked at an end, and that those stand as they stood. -/
def KeepQ (ps : List Nat) (a : Act) (Q : Exit → Act → World → Prop) : Exit → Act → World → Prop
  | .normal, a', w' => Q .normal a' w' ∧ Keep ps a a'
  | e, a', w' => Q e a' w'
theorem out_keep {a : Act} {Q : Exit → Act → World → Prop} (h : LetsOut Q) : LetsOut (KeepQ ps a Q) := h
theorem op_keep {o : Oper} (ho : pinO ps o = true) {a a0 : Act} {w : World} {K K' : Act → World → Prop} {Q : Exit → Act → World → Prop} (h : o.wp P a w K Q) (hK : ∀ a' w', K a' w' → Keep ps a a' → K' a' w') : o.wp P a w K' (KeepQ ps a0 Q) := by
  unfold Oper.wp at h ⊢
  cases hr : (execOp a.eval o).run P w with
  | ok x w' =>
    rw [hr] at h
    cases x with
    | value v => exact hK _ _ h (keep_put ho)
    | skip => exact hK _ _ h (keep_put ho)
    | defer d => exact hK _ _ h (keep_put (a := { a with defers := d :: a.defers }) ho)
    | enter f args =>
      refine Calls.mono h fun e w'' h => ?_
      cases e with
      | returned v => exact hK _ _ h (keep_put ho)
      | panicked ch => exact h
      | outgrown => exact h
    | row r args => exact Rows.mono h fun v w'' h => hK _ _ h (keep_put ho)
    | _ => exact h.elim
  | halt x w' =>
    rw [hr] at h
    cases x with
    | panic v => exact h
    | _ => exact h.elim
theorem wpOp_keep (hp : ∀ o ∈ ops.toList, pinO ps o = true) {i : Nat} {a a0 : Act} {w : World} {K K' : Act → World → Prop} {Q : Exit → Act → World → Prop} (h : wpOp P ops Q i K a w) (hK : ∀ a' w', K a' w' → Keep ps a a' → K' a' w') : wpOp P ops (KeepQ ps a0 Q) i K' a w := by
  unfold wpOp at h ⊢
  cases ho : ops[i]? with
  | none => rw [ho] at h; exact hK _ _ h Keep.refl
  | some o =>
    rw [ho] at h
    have hp' := hp o (by simpa using Array.mem_of_getElem? ho)
    simp only at h ⊢
    split at h
    · rename_i hw
      rw [if_pos hw]
      rcases h with h | ⟨h1, h2⟩
      · exact .inl (op_keep hp' h hK)
      · exact .inr ⟨h1, out_keep h2⟩
    · rename_i hw
      rw [if_neg hw]
      exact hK _ _ h (keep_put hp')
theorem wpOps_keep (hp : ∀ o ∈ ops.toList, pinO ps o = true) {a0 : Act} {Q : Exit → Act → World → Prop} : ∀ (l : List Nat) {a : Act} {w : World}, Keep ps a0 a → wpOps P ops Q l a w → wpOps P ops (KeepQ ps a0 Q) l a w
  | [], a, w, hk, h => ⟨h, hk⟩
  | i :: l, a, w, hk, h => by
    rw [wpOps_cons] at h ⊢
    exact wpOp_keep hp h fun a' w' h1 h2 => wpOps_keep hp l (hk.trans h2) h1
theorem wpAny_keep (hp : ∀ o ∈ ops.toList, pinO ps o = true) {md : Region.Mode} {a0 : Act} {Q : Exit → Act → World → Prop} : ∀ (n : Nat) {l : Array Bool} {a : Act} {w : World}, Keep ps a0 a → wpAny P md ops Q n l a w → wpAny P md ops (KeepQ ps a0 Q) n l a w
  | 0, l, a, w, hk, h => ⟨h.1, h.2, hk⟩
  | n + 1, l, a, w, hk, h => ⟨fun e => ⟨h.1 e, hk⟩, fun i hi => wpOp_keep hp (h.2 i hi) fun a' w' h1 h2 => wpAny_keep hp n (hk.trans h2) h1⟩
end
end Go.Proofs.Ytbgefphoochgcaa.FE
/- FE, part 37: code: what the evaluator finds is what the code does. -/
namespace Go.Proofs.Ytbgefphoochgcaa.FE
open Go
set_option linter.unusedVariables false
set_option linter.unusedSimpArgs false
section
variable {Ω : Type} {C : CloRep Ω} {P : Program} {T : Tab} {N : Nat} {Φ : Env Ω}

def codeB (N : Nat) (ps : List Nat) : Code → Bool
  | .region _ ops _ => and (allB (opB N) ops.toList) (allB (pinO ps) ops.toList)
  | .seq a b => and (codeB N ps a) (codeB N ps b)
  | .cond _ a b => and (codeB N ps a) (codeB N ps b)
  | .block _ a | .loop a | .scope a => codeB N ps a
  | _ => true
/-- Where code ends: the state there, and that the evaluator's answer comes from it. -/
def EvPost (C : CloRep Ω) (N : Nat) (ps : List Nat) {R ρ : Type} (G : Ghost) (rc : Nat) (st : S Ω) (a : Act) (w : World) (res : Nat → S Ω → Option ρ) (n : Nat → S Ω → Option R) (x : Nat → Nat → S Ω → Option R) (r : ρ → Option R) (z : R) : Exit → Act → World → Prop
  | .normal, a', w' => ∃ rc' st' G', rc ≤ rc' ∧ (∃ ws, st' = ws ++ st) ∧ Fr G.ρ w G'.ρ w' ∧ Rep C G' N (usedB rc') st' a' w' ∧ Keep ps a a' ∧ n rc' st' = some z
  | .exit e, a', w' => ∃ rc' st' G', rc ≤ rc' ∧ (∃ ws, st' = ws ++ st) ∧ Fr G.ρ w G'.ρ w' ∧ Rep C G' N (usedB rc') st' a' w' ∧ Keep ps a a' ∧ x e rc' st' = some z
  | .ret, a', w' => ∃ rc' st' G', (∃ ws, st' = ws ++ st) ∧ Fr G.ρ w G'.ρ w' ∧ Rep C G' N (usedB rc') st' a' w' ∧ Keep ps a a' ∧ ∃ y, res rc' st' = some y ∧ r y = some z
  | _, _, _ => False
variable {R ρ : Type} {ps : List Nat} {G : Ghost} {rc : Nat} {st : S Ω} {a : Act} {w : World} {res : Nat → S Ω → Option ρ} {n : Nat → S Ω → Option R} {x : Nat → Nat → S Ω → Option R} {r : ρ → Option R} {z : R}
theorem EvPost.norm {rc' : Nat} {st' : S Ω} {G' : Ghost} {a' : Act} {w' : World} (h1 : rc ≤ rc') (h2 : ∃ ws, st' = ws ++ st) (h3 : Fr G.ρ w G'.ρ w') (h4 : Rep C G' N (usedB rc') st' a' w') (hk : Keep ps a a') (h5 : n rc' st' = some z) : EvPost C N ps G rc st a w res n x r z .normal a' w' := ⟨rc', st', G', h1, h2, h3, h4, hk, h5⟩
theorem EvPost.exit {e : Nat} {rc' : Nat} {st' : S Ω} {G' : Ghost} {a' : Act} {w' : World} (h1 : rc ≤ rc') (h2 : ∃ ws, st' = ws ++ st) (h3 : Fr G.ρ w G'.ρ w') (h4 : Rep C G' N (usedB rc') st' a' w') (hk : Keep ps a a') (h5 : x e rc' st' = some z) : EvPost C N ps G rc st a w res n x r z (.exit e) a' w' := ⟨rc', st', G', h1, h2, h3, h4, hk, h5⟩
theorem EvPost.ret {rc' : Nat} {st' : S Ω} {G' : Ghost} {a' : Act} {w' : World} {y : ρ} (h2 : ∃ ws, st' = ws ++ st) (h3 : Fr G.ρ w G'.ρ w') (h4 : Rep C G' N (usedB rc') st' a' w') (hk : Keep ps a a') (h5 : res rc' st' = some y) (h6 : r y = some z) : EvPost C N ps G rc st a w res n x r z .ret a' w' := ⟨rc', st', G', h2, h3, h4, hk, y, h5, h6⟩
theorem EvPost.start {G1 : Ghost} {rc1 : Nat} {st1 : S Ω} {a1 : Act} {w1 : World} (hrc : rc ≤ rc1) (hst : ∃ ws, st1 = ws ++ st) (hf : Fr G.ρ w G1.ρ w1) (hk : Keep ps a a1) {e : Exit} {a' : Act} {w' : World} (h : EvPost C N ps G1 rc1 st1 a1 w1 res n x r z e a' w') : EvPost C N ps G rc st a w res n x r z e a' w' := by
  obtain ⟨ws0, rfl⟩ := hst
  cases e with
  | normal =>
    obtain ⟨rc', st', G', h1, ⟨ws, rfl⟩, h3, h4, k, h5⟩ := h
    exact ⟨rc', _, G', by omega, ⟨ws ++ ws0, by rw [List.append_assoc]⟩, hf.trans h3, h4, hk.trans k, h5⟩
  | exit e =>
    obtain ⟨rc', st', G', h1, ⟨ws, rfl⟩, h3, h4, k, h5⟩ := h
    exact ⟨rc', _, G', by omega, ⟨ws ++ ws0, by rw [List.append_assoc]⟩, hf.trans h3, h4, hk.trans k, h5⟩
  | ret =>
    obtain ⟨rc', st', G', ⟨ws, rfl⟩, h3, h4, k, h5⟩ := h
    exact ⟨rc', _, G', ⟨ws ++ ws0, by rw [List.append_assoc]⟩, hf.trans h3, h4, hk.trans k, h5⟩
  | _ => exact h.elim
theorem region_textP (hT : TabOk P T) (hΦ : EnvOk P C Φ) {H : Hints} {rid : Nat} {all : Array Oper} (hB : ∀ o ∈ all.toList, opB N o = true) (hp : ∀ o ∈ all.toList, pinO ps o = true) {used : Id → Prop} {Q : Exit → Act → World → Prop} (hf : FreshR used rc)
    {st' : S Ω} {log log' : List LogRow} (ht : Trace T Φ H rid rc all all.toList 0 st log st' log') (hr : Rep C G N used st a w)
    (hK : ∀ G' a' w', Fr G.ρ w G'.ρ w' → Rep C G' N (usedN used rc) st' a' w' → Keep ps a a' → Q .normal a' w') : (Code.region rid all false).wp P Q a w := by
  let Q1 : Exit → Act → World → Prop := fun e a' w' => e = .normal ∧ ∃ G', Fr G.ρ w G'.ρ w' ∧ Rep C G' N (usedN used rc) st' a' w'
  have h1 := text_ok hT hΦ hB (Q := Q1) hf all.toList 0 ht rfl (hr.mono fun _ h => .inl h) (fun G' a' w' h1 h2 => ⟨rfl, G', h1, h2⟩)
  rw [← List.range_eq_range', Array.length_toList] at h1
  refine wp_mono (wp_region (wpOps_keep (a0 := a) hp _ Keep.refl h1)) fun e a' w' hq => ?_
  cases e with
  | normal => obtain ⟨⟨_, G', k1, k2⟩, k3⟩ := hq; exact hK G' a' w' k1 k2 k3
  | _ => obtain ⟨h, _⟩ := hq; cases h
theorem region_drawP (hm : P.follows .mixedOrders = true) (hT : TabOk P T) (hΦ : EnvOk P C Φ) {H : Hints} {rid : Nat} {all : Array Oper} (hB : ∀ o ∈ all.toList, opB N o = true) (hp : ∀ o ∈ all.toList, pinO ps o = true) {used : Id → Prop} {Q : Exit → Act → World → Prop} (hf : FreshR used rc)
    {st' : S Ω} {log' : List LogRow} (ht : Trace T Φ H rid rc all all.toList 0 st [] st' log') (hb : backB 0 all.toList = true) (hi : indepAll (Region.before all) log' = true) (hr : Rep C G N used st a w)
    (hK : ∀ G' a' w', Fr G.ρ w G'.ρ w' → Rep C G' N (usedN used rc) st' a' w' → Keep ps a a' → Q .normal a' w') : (Code.region rid all true).wp P Q a w := by
  let Q1 : Exit → Act → World → Prop := fun e a' w' => e = .normal ∧ ∃ G', Fr G.ρ w G'.ρ w' ∧ Rep C G' N (usedN used rc) st' a' w'
  have h1 := region_any hT hΦ hB (Q := Q1) hf ht hb hi hr (fun G' a' w' h1 h2 => ⟨rfl, G', h1, h2⟩)
  refine wp_mono (wp_region_any hm (wpAny_keep (a0 := a) hp _ Keep.refl h1)) fun e a' w' hq => ?_
  cases e with
  | normal => obtain ⟨⟨_, G', k1, k2⟩, k3⟩ := hq; exact hK G' a' w' k1 k2 k3
  | _ => obtain ⟨h, _⟩ := hq; cases h
theorem freshB : FreshR (usedB rc) rc := fun j s h => by
  have : rc < rc := h
  omega
theorem usedN_B : ∀ id, usedN (usedB rc) rc id → usedB (rc + 1) id := by
  rintro id (h | h)
  · have : id.1 < rc := h
    show id.1 < rc + 1
    omega
  · show id.1 < rc + 1
    omega
theorem cond_ok (hr : Rep C G N (usedB rc) st a w) {c : Operand} {t : Bool} (h : condV st c = some t) : a.eval c = .bool t ∧ Rep C G N (usedB rc) (setC c t st) a w ∧ ∃ ws, setC c t st = ws ++ st := by
  cases c with
  | tmp m =>
    simp only [condV] at h
    split at h
    · rename_i b hb
      cases h
      have h2 := hr.at_ (.tmp m)
      rw [hb] at h2
      have h3 : [a.tmps.getD m undef] = [Value.bool t] := h2
      refine ⟨by simpa [Act.eval] using h3, hr.congr (get_pin hb), [(.tmp m, .one (.dat .bool t))], rfl⟩
    · cases h
  | const v =>
    cases v with
    | bool b => cases h; exact ⟨rfl, hr, [], rfl⟩
    | _ => cases h
  | _ => simp only [condV] at h; cases h
theorem unpackH_ext {hof : Bool} {sh : List (Loc × LS)} {c : Code} {y : LT hof Ω (outTy (shTys sh))} : ∃ ws, unpackH hof rc sh y ++ kill c st = ws ++ st := ⟨unpackH hof rc sh y ++ (dsts c).map (fun d => (Loc.tmp d, AV.one .dead)), by unfold kill; rw [List.append_assoc]⟩
theorem nbeq {a b : Nat} : Nat.beq a b = true ↔ a = b := by rw [Nat.beq_eq]
theorem blk_ok {i : Nat} {c : Code} (h : c.wp P (EvPost C N ps G rc st a w res n (fun e rc' st' => match Nat.beq e i with | true => n rc' st' | false => x e rc' st') r z) a w) : (Code.block i c).wp P (EvPost C N ps G rc st a w res n x r z) a w := by
  refine wp_block (wp_mono h fun e a' w' hq => ?_)
  cases e with
  | normal => exact hq
  | exit e =>
    obtain ⟨rc', st', G', q1, q2, q3, q4, hk, q5⟩ := hq
    simp only at q5
    show (if e = i then _ else _)
    by_cases he : e = i
    · rw [if_pos he]
      rw [nbeq.2 he] at q5
      exact EvPost.norm q1 q2 q3 q4 hk q5
    · rw [if_neg he]
      have : Nat.beq e i = false := by
        cases hh : Nat.beq e i
        · rfl
        · exact absurd (nbeq.1 hh) he
      rw [this] at q5
      exact EvPost.exit q1 q2 q3 q4 hk q5
  | ret => exact hq
  | _ => exact hq.elim
theorem ev_ok {ps : List Nat} (hm : P.follows .mixedOrders = true) (hT : TabOk P T) (hΦ : EnvOk P C Φ) {H : Hints} {fuel : Nat} {hof : Bool} :
    ∀ (c : Code) {ρ : Type} {res : Nat → S Ω → Option ρ} {R : Type} {rc : Nat} {G : Ghost} {st : S Ω} {a : Act} {w : World} {n : Nat → S Ω → Option R} {x : Nat → Nat → S Ω → Option R} {r : ρ → Option R} {z : R}, codeB N ps c = true → ev T Φ H fuel hof res R c rc st n x r = some z → Rep C G N (usedB rc) st a w →
      c.wp P (EvPost C N ps G rc st a w res n x r z) a w
  | .skip, ρ, res, R, rc, G, st, a, w, n, x, r, z, hb, h, hr => Go.wp_skip (EvPost.norm (Nat.le_refl _) ⟨[], rfl⟩ (Fr.refl _ _) hr Keep.refl h)
  | .region i ops draw, ρ, res, R, rc, G, st, a, w, n, x, r, z, hb, h, hr => by
    simp only [codeB, Bool.and_eq_true] at hb
    have hB : ∀ o ∈ ops.toList, opB N o = true := allB_spec hb.1
    have hP : ∀ o ∈ ops.toList, pinO ps o = true := allB_spec hb.2
    obtain ⟨st', log', ht, hext, h⟩ := evOps_trace ops.toList 0 st [] _ h
    cases draw with
    | false => exact region_textP hT hΦ hB hP freshB ht hr fun G' a' w' h1 h2 h3 => EvPost.norm (Nat.le_succ _) hext h1 (h2.mono usedN_B) h3 h
    | true =>
      simp only at h
      split at h
      · rename_i hbi
        rw [Bool.and_eq_true] at hbi
        exact region_drawP hm hT hΦ hB hP freshB ht hbi.1 hbi.2 hr fun G' a' w' h1 h2 h3 => EvPost.norm (Nat.le_succ _) hext h1 (h2.mono usedN_B) h3 h
      · cases h
  | .seq c1 c2, ρ, res, R, rc, G, st, a, w, n, x, r, z, hb, h, hr => by
    simp only [codeB, Bool.and_eq_true] at hb
    simp only [ev] at h
    split at h
    · refine wp_seq (wp_mono (ev_ok hm hT hΦ c1 hb.1 h hr) fun e a' w' hq => ?_)
      cases e with
      | normal =>
        obtain ⟨rc', st', G', h1, h2, h3, h4, hk, h5⟩ := hq
        exact wp_mono (ev_ok hm hT hΦ c2 hb.2 h5 h4) fun e a2 w2 hq => hq.start h1 h2 h3 hk
      | exit e => exact hq
      | ret => exact hq
      | _ => exact hq.elim
    · rename_i J hJ
      simp only [Option.bind_eq_some_iff] at h
      obtain ⟨sh, hsh, shx, hshx, o, ho, h⟩ := h
      have old := old_resolve hr hsh
      refine wp_seq (wp_mono (ev_ok hm hT hΦ c1 hb.1 ho hr) fun e a' w' hq => ?_)
      cases e with
      | normal =>
        obtain ⟨rc', st', G', h1, ⟨ws, rfl⟩, h3, h4, hk, h5⟩ := hq
        simp only at h5
        split at h5
        · rename_i hs
          simp only [Option.bind_eq_some_iff] at h5
          obtain ⟨y, hy, h5⟩ := h5
          cases h5
          obtain ⟨G2, e1, h6⟩ := join_putH h4 (old_kill hr c1) old (same_join hs) hy
          exact wp_mono (ev_ok hm hT hΦ c2 hb.2 h h6) fun e a2 w2 hq => hq.start (Nat.le_succ _) unpackH_ext (by rw [e1]; exact h3) hk
        · cases h5
      | exit e =>
        obtain ⟨rc', st', G', h1, ⟨ws, rfl⟩, h3, h4, hk, h5⟩ := hq
        cases hex : J.ex with
        | none => rw [hex] at h5; cases h5
        | some p =>
          obtain ⟨e', s⟩ := p
          rw [hex] at h5 hshx
          simp only at h5
          split at h5
          · rename_i hs
            rw [Bool.and_eq_true, Nat.beq_eq] at hs
            obtain ⟨he, hs⟩ := hs
            subst he
            simp only [Option.bind_eq_some_iff] at h5
            obtain ⟨y, hy, h5⟩ := h5
            cases h5
            obtain ⟨G2, e1, h6⟩ := join_putH h4 (old_kill hr c1) (old_resolve hr hshx) (same_join hs) hy
            simp only [LO.elim, hex] at h
            exact EvPost.exit (C := C) (res := res) (n := n) (x := x) (r := r) (Nat.le_succ _) unpackH_ext (by rw [e1]; exact h3) h6 hk h
          · cases h5
      | ret =>
        obtain ⟨rc', st', G', h2, h3, h4, hk, y, h5, h6⟩ := hq
        cases h6
        exact EvPost.ret (C := C) (rc := rc) (n := n) (x := x) h2 h3 h4 hk h5 h
      | _ => exact hq.elim
  | .cond c c1 c2, ρ, res, R, rc, G, st, a, w, n, x, r, z, hb, h, hr => by
    simp only [codeB, Bool.and_eq_true] at hb
    simp only [ev, Option.bind_eq_some_iff] at h
    obtain ⟨t, ht, h⟩ := h
    obtain ⟨k1, k2, k3⟩ := cond_ok hr ht
    refine wp_cond k1 ?_
    cases t with
    | true => exact wp_mono (ev_ok hm hT hΦ c1 hb.1 h k2) fun e a2 w2 hq => hq.start (Nat.le_refl _) k3 (Fr.refl _ _) Keep.refl
    | false => exact wp_mono (ev_ok hm hT hΦ c2 hb.2 h k2) fun e a2 w2 hq => hq.start (Nat.le_refl _) k3 (Fr.refl _ _) Keep.refl
  | .block i (.loop body), ρ, res, R, rc, G, st, a, w, n, x, r, z, hb, h, hr => by
    simp only [codeB] at hb
    simp only [ev] at h
    split at h
    · cases h
    · rename_i sl hsl
      simp only [Option.bind_eq_some_iff] at h
      obtain ⟨sh, hsh, y0, hy0, o, ho, h⟩ := h
      have old := old_resolve hr hsh
      have oldk := old_kill hr body
      refine wp_block (loop_start ?_)
      have key : ∀ (k : Nat) (y : LT hof Ω (outTy (shTys sh))) (G1 : Ghost) (a1 : Act) (w1 : World), iter (fun self y => ev T Φ H fuel hof res (LO (LT hof Ω (outTy (shTys sh))) Unit ρ) body (rc + 1) (unpackH hof rc sh y ++ kill body st)
          (fun _ st' => match sinceB hof sh (kill body st) (sinceS st' (unpackH hof rc sh y ++ kill body st)) with | true => (packH hof st' sh).bind self | false => none)
          (fun e _ st' => match and (Nat.beq e i) (sinceB hof sh (kill body st) (sinceS st' (unpackH hof rc sh y ++ kill body st))) with | true => (packH hof st' sh).bind fun y => some (.out y) | false => none)
          (fun y => some (.ret y))) k y = some o → Fr G.ρ w G1.ρ w1 → Keep ps a a1 → Rep C G1 N (usedB (rc + 1)) (unpackH hof rc sh y ++ kill body st) a1 w1 →
          LoopAt P body (Exit.inBlock i (EvPost C N ps G rc st a w res n x r z)) a1 w1 := by
        intro k
        induction k with
        | zero => intro y G1 a1 w1 h1; cases h1
        | succ k ih =>
          intro y G1 a1 w1 h1 hf hk1 hr1
          simp only [iter] at h1
          refine loop_round (wp_mono (ev_ok hm hT hΦ body hb h1 hr1) fun e a' w' hq => ?_)
          cases e with
          | normal =>
            obtain ⟨rc', st', G', q1, ⟨ws, rfl⟩, q3, q4, hk, q5⟩ := hq
            simp only at q5
            split at q5
            · rename_i hs
              simp only [Option.bind_eq_some_iff] at q5
              obtain ⟨y', hy', q5⟩ := q5
              obtain ⟨G2, e1, q6⟩ := join_putH q4 oldk old (same_loop hs) hy'
              exact ih y' G2 a' w' q5 (by rw [e1]; exact hf.trans q3) (hk1.trans hk) q6
            · cases q5
          | exit e =>
            obtain ⟨rc', st', G', q1, ⟨ws, rfl⟩, q3, q4, hk, q5⟩ := hq
            simp only at q5
            split at q5
            · rename_i hs
              rw [Bool.and_eq_true, Nat.beq_eq] at hs
              obtain ⟨he, hs⟩ := hs
              subst he
              simp only [Option.bind_eq_some_iff] at q5
              obtain ⟨y', hy', q5⟩ := q5
              cases q5
              obtain ⟨G2, e1, q6⟩ := join_putH q4 oldk old (same_loop hs) hy'
              show (if e = e then _ else _)
              rw [if_pos rfl]
              exact EvPost.norm (Nat.le_succ _) unpackH_ext (by rw [e1]; exact hf.trans q3) q6 (hk1.trans hk) h
            · cases q5
          | ret =>
            obtain ⟨rc', st', G', ⟨ws, rfl⟩, q3, q4, hk, y', q5, q6⟩ := hq
            cases q6
            obtain ⟨wx, ex⟩ := unpackH_ext (st := st) (c := body) (rc := rc) (y := y)
            exact EvPost.ret (C := C) (rc := rc) (n := n) (x := x) ⟨ws ++ wx, by rw [ex, List.append_assoc]⟩ (hf.trans q3) q4 (hk1.trans hk) q5 h
          | _ => exact hq.elim
      obtain ⟨G1, e1, h1⟩ := join_putH hr oldk old same_start hy0
      exact key fuel y0 G1 a w ho (by rw [e1]; exact Fr.refl _ _) Keep.refl h1
  | .exit i, ρ, res, R, rc, G, st, a, w, n, x, r, z, hb, h, hr => wp_exit (EvPost.exit (Nat.le_refl _) ⟨[], rfl⟩ (Fr.refl _ _) hr Keep.refl h)
  | .ret, ρ, res, R, rc, G, st, a, w, n, x, r, z, hb, h, hr => by
    simp only [ev, Option.bind_eq_some_iff] at h
    obtain ⟨y, h1, h2⟩ := h
    exact wp_ret (EvPost.ret ⟨[], rfl⟩ (Fr.refl _ _) hr Keep.refl h1 h2)
  | .block i .skip, ρ, res, R, rc, G, st, a, w, n, x, r, z, hb, h, hr => by
    have h : ev T Φ H fuel hof res R (.skip) rc st n (fun e rc' st' => match Nat.beq e i with | true => n rc' st' | false => x e rc' st') r = some z := h
    exact blk_ok (ev_ok hm hT hΦ (.skip) hb h hr)
  | .block i (.region i' ops draw), ρ, res, R, rc, G, st, a, w, n, x, r, z, hb, h, hr => by
    have h : ev T Φ H fuel hof res R (.region i' ops draw) rc st n (fun e rc' st' => match Nat.beq e i with | true => n rc' st' | false => x e rc' st') r = some z := h
    exact blk_ok (ev_ok hm hT hΦ (.region i' ops draw) hb h hr)
  | .block i (.seq c1 c2), ρ, res, R, rc, G, st, a, w, n, x, r, z, hb, h, hr => by
    have h : ev T Φ H fuel hof res R (.seq c1 c2) rc st n (fun e rc' st' => match Nat.beq e i with | true => n rc' st' | false => x e rc' st') r = some z := h
    exact blk_ok (ev_ok hm hT hΦ (.seq c1 c2) hb h hr)
  | .block i (.cond c c1 c2), ρ, res, R, rc, G, st, a, w, n, x, r, z, hb, h, hr => by
    have h : ev T Φ H fuel hof res R (.cond c c1 c2) rc st n (fun e rc' st' => match Nat.beq e i with | true => n rc' st' | false => x e rc' st') r = some z := h
    exact blk_ok (ev_ok hm hT hΦ (.cond c c1 c2) hb h hr)
  | .block i (.block i' c), ρ, res, R, rc, G, st, a, w, n, x, r, z, hb, h, hr => by
    have h : ev T Φ H fuel hof res R (.block i' c) rc st n (fun e rc' st' => match Nat.beq e i with | true => n rc' st' | false => x e rc' st') r = some z := h
    exact blk_ok (ev_ok hm hT hΦ (.block i' c) hb h hr)
  | .block i (.exit i'), ρ, res, R, rc, G, st, a, w, n, x, r, z, hb, h, hr => by
    have h : ev T Φ H fuel hof res R (.exit i') rc st n (fun e rc' st' => match Nat.beq e i with | true => n rc' st' | false => x e rc' st') r = some z := h
    exact blk_ok (ev_ok hm hT hΦ (.exit i') hb h hr)
  | .block i .ret, ρ, res, R, rc, G, st, a, w, n, x, r, z, hb, h, hr => by
    have h : ev T Φ H fuel hof res R (.ret) rc st n (fun e rc' st' => match Nat.beq e i with | true => n rc' st' | false => x e rc' st') r = some z := h
    exact blk_ok (ev_ok hm hT hΦ (.ret) hb h hr)
  | .loop c, ρ, res, R, rc, G, st, a, w, n, x, r, z, hb, h, hr => by simp only [ev] at h; cases h
  | .rangeFunc f ps c1 c2, ρ, res, R, rc, G, st, a, w, n, x, r, z, hb, h, hr => by simp only [ev] at h; cases h
  | .scope c, ρ, res, R, rc, G, st, a, w, n, x, r, z, hb, h, hr => by simp only [ev] at h; cases h
  | .label l, ρ, res, R, rc, G, st, a, w, n, x, r, z, hb, h, hr => by simp only [ev] at h; cases h
  | .goto l, ρ, res, R, rc, G, st, a, w, n, x, r, z, hb, h, hr => by simp only [ev] at h; cases h
  | .refuse s, ρ, res, R, rc, G, st, a, w, n, x, r, z, hb, h, hr => by simp only [ev] at h; cases h
end
end Go.Proofs.Ytbgefphoochgcaa.FE
/- FE, part 38: functions: the way in. -/
namespace Go.Proofs.Ytbgefphoochgcaa.FE
open Go
set_option linter.unusedVariables false
set_option linter.unusedSimpArgs false
section
variable {Ω : Type} {C : CloRep Ω} {P : Program} {T : Tab} {N : Nat} {Φ : Env Ω}
variable {ρ : Nat → Option Own} {a : Act} {w : World} {G : Ghost}

def notRow : LS → Bool | .dat t => !(rowB t) | _ => true
def parB : PS → Bool
  | .mu s => !(datS s)
  | .bx ls => allB notRow ls
  | _ => true
def noFn : PS → Bool | .fn => false | _ => true
theorem FnAt.none {C : CloRep Ω} {qs : List PS} {vs : List Value} (h : allB noFn qs = true) : FnAt C qs vs := fun k hk => by
  have := allB_spec h _ (List.mem_of_getElem? hk)
  cases this
def usedP (p : Nat) : Id → Prop := fun id => ∃ k, p ≤ k ∧ id = (0, 0, k)
theorem SlotRep.more {G' : Ghost} (h1 : G'.ρ = G.ρ) (h2 : ∀ id b, G.β id = some b → G'.β id = some b) {l : Loc} {s : LS} {d : DL} (h : SlotRep G a w l s d) : SlotRep G' a w l s d := by
  obtain ⟨v, hv, h⟩ := h
  have hO : G'.O = G.O := by unfold Ghost.O; rw [h1]
  refine ⟨v, ?_, ?_⟩
  · cases l with
    | box id j => obtain ⟨b, n, k1, k2⟩ := hv; exact ⟨b, n, h2 _ _ k1, k2⟩
    | _ => exact hv
  · cases s with
    | dat t => obtain ⟨x, e, h⟩ := h; exact ⟨x, e, by rw [hO]; exact h⟩
    | arr e => rw [h1]; exact h
    | omp k v => rw [h1]; exact h
theorem slot_of {l : Loc} {s : LS} {d : DL} {v : Value} (hv : ValAt G a w l v) (hn : notRow s = true) (h : LSRep G.ρ w (.at_ l) s d v) : SlotRep G a w l s d := by
  refine ⟨v, hv, ?_⟩
  cases s with
  | dat t =>
    obtain ⟨x, e, h⟩ := h
    refine ⟨x, e, ?_⟩
    have hb : rowB t = false := by simpa [notRow] using hn
    unfold RepV Val
    rw [hb]
    exact h
  | arr e => exact h
  | omp k v => exact h
theorem boxS_slots {id : Id} {b n : Nat} (hβ : G.β id = some (b, n)) : ∀ (ls : List LS) (ds : List DL) (j : Nat), ds.length = ls.length → allB notRow ls = true →
    (∀ (k : Nat) s d, ls[k]? = some s → ds[k]? = some d → ∃ u, w.cell? ⟨b, j + k, none⟩ = some u ∧ LSRep G.ρ w (.at_ (.box id (j + k))) s d u) → All2 (fun (q : Loc × LS) d => SlotRep G a w q.1 q.2 d) (boxS id j ls) ds
  | [], [], j, _, _, _ => .nil
  | [], _ :: _, j, h, _, _ => by cases h
  | _ :: _, [], j, h, _, _ => by cases h
  | s :: ls, d :: ds, j, h, hb, hk => by
    have hb' := allB_spec hb
    obtain ⟨u, h1, h2⟩ := hk 0 s d rfl rfl
    refine .cons (slot_of (v := u) ⟨b, n, hβ, h1⟩ (hb' s (by simp)) h2) (boxS_slots hβ ls ds (j + 1) (by simpa using h) ?_ fun k s' d' e1 e2 => ?_)
    · simp only [allB] at hb
      split at hb
      · exact hb
      · cases hb
    · obtain ⟨u, h3, h4⟩ := hk (k + 1) s' d' (by simpa using e1) (by simpa using e2)
      rw [show j + 1 + k = j + (k + 1) by omega]
      exact ⟨u, h3, h4⟩
theorem All2.mono' {α β : Type} {R Q : α → β → Prop} (h : ∀ a b, R a b → Q a b) {as : List α} {bs : List β} (t : All2 R as bs) : All2 Q as bs := t.mono h
theorem usedP_mono {p : Nat} : ∀ id, usedP (p + 1) id → usedP p id := by
  rintro id ⟨k, h, e⟩; exact ⟨k, by omega, e⟩
theorem parR_put (hlt : ∀ b, Ow ρ b → b < w.heap.size) (hsz : a.tmps.size = N) (hd : a.defers = []) : ∀ (qs : List PS) (ds : List DL) (vs : List Value) (p : Nat), allB parB qs = true → FnAt C qs vs → ParsRep ρ w p qs ds vs → (∀ (k : Nat) v, vs[k]? = some v → a.tmps.getD (p + k) undef = v) →
    ∃ G, G.ρ = ρ ∧ Rep C G N (usedP p) (parR p qs ds) a w ∧ All2 (fun (q : Loc × LS) d => SlotRep G a w q.1 q.2 d) (parL p qs) (parD qs ds)
  | [], ds, vs, p, hb, hfn, h, hv => by
    refine ⟨⟨fun _ => none, fun _ => none, ρ⟩, rfl, ⟨fun l => RepAt.dead', hsz, hd, fun id b n h => (by cases h), fun id h => absurd rfl h, fun id h => absurd rfl h, hlt⟩, .nil⟩
  | q :: qs, ds, vs, p, hb, hfn, h, hv => by
    obtain ⟨d1, d2, v, vs', rfl, rfl, h1, h2⟩ := h
    have hb2 : parB q = true ∧ allB parB qs = true := by
      simp only [allB] at hb
      split at hb
      · rename_i e; exact ⟨e, hb⟩
      · cases hb
    obtain ⟨G, e1, hr, hs⟩ := parR_put hlt hsz hd qs d2 vs' (p + 1) hb2.2 (fun k hk => by simpa using hfn (k + 1) (by simpa using hk)) h2 (fun k v' e => by
      have := hv (k + 1) v' (by simpa using e)
      rwa [show p + (k + 1) = p + 1 + k by omega] at this)
    have hv0 : a.tmps.getD p undef = v := by simpa using hv 0 v rfl
    have hO : G.O = Ow ρ := by unfold Ghost.O; rw [e1]
    have one : ∀ {s : LS} {d : DL}, d1 = [d] → SlotRep G a w (.tmp p) s d → Rep C G N (usedP p) (parR (p + 1) qs ((d1 ++ d2).drop 1)) a w ∧ All2 (fun (q : Loc × LS) d => SlotRep G a w q.1 q.2 d) ((.tmp p, s) :: parL (p + 1) qs) ((d1 ++ d2).take 1 ++ parD qs ((d1 ++ d2).drop 1)) := by
      rintro s d rfl h
      exact ⟨hr.mono usedP_mono, .cons h hs⟩
    cases q with
    | v s =>
      cases s with
      | dat t =>
        obtain ⟨x, e, h⟩ := h1
        obtain ⟨k1, k2⟩ := one (s := .dat t) e ⟨v, hv0, x, rfl, by rw [hO]; exact h⟩
        exact ⟨G, e1, k1, k2⟩
      | arr e' =>
        obtain ⟨d, e, h⟩ := h1
        obtain ⟨k1, k2⟩ := one (s := .arr e') e (slot_of hv0 rfl (by rw [e1]; exact h))
        exact ⟨G, e1, k1, k2⟩
      | omp k u =>
        obtain ⟨d, e, h⟩ := h1
        obtain ⟨k1, k2⟩ := one (s := .omp k u) e (slot_of hv0 rfl (by rw [e1]; exact h))
        exact ⟨G, e1, k1, k2⟩
    | mu s =>
      obtain ⟨d, e, h⟩ := h1
      have hn : notRow s = true := by
        have := hb2.1
        cases s <;> first | rfl | cases this
      obtain ⟨k1, k2⟩ := one (s := s) e (slot_of hv0 hn (by rw [e1]; exact h))
      exact ⟨G, e1, k1, k2⟩
    | ep t =>
      obtain ⟨x, b, off, l, rfl, rfl, hb, hx, hat⟩ := h1
      refine ⟨G, e1, ?_, hs⟩
      have : epV (Ω := Ω) t ([⟨t, x⟩] ++ d2) = .one (.eptr t x) := by simp [epV, cast_self]
      show Rep C G N (usedP p) ((.tmp p, epV t ([⟨t, x⟩] ++ d2)) :: parR (p + 1) qs d2) a w
      rw [this]
      exact Rep.putAt (u := .one (.eptr t x)) (hr.mono usedP_mono) ⟨b, off, l, rfl, by rw [hO]; exact hb, by rw [hO]; exact hx, hat⟩ hv0
    | bx ls =>
      obtain ⟨b, c, el, rfl, hρ, hh, hc, hd1, hl⟩ := h1
      obtain ⟨hm, hr2⟩ := hr.addBox (id := (0, 0, p)) (b := b) (n := ls.length) (used' := usedP p) (by rintro ⟨k, h, e⟩; simp only [Prod.mk.injEq, true_and] at e; omega) (by rw [e1]; exact hρ) ⟨c, el, hh, hc⟩ usedP_mono ⟨p, Nat.le_refl _, rfl⟩
      have hβ : (fun x => match idB (0, 0, p) x with | true => some (b, ls.length) | false => G.β x) (0, 0, p) = some (b, ls.length) := by simp [idB_iff.2 rfl]
      refine ⟨{ G with β := fun x => match idB (0, 0, p) x with | true => some (b, ls.length) | false => G.β x }, e1, ?_, ?_⟩
      · show Rep C _ N (usedP p) ((.tmp p, .one (.ref (0, 0, p) 0 ls.length)) :: parR (p + 1) qs ((d1 ++ d2).drop ls.length)) a w
        rw [← hd1, List.drop_left]
        rw [hd1]
        exact Rep.putAt (l := .tmp p) (u := .one (.ref (0, 0, p) 0 ls.length)) hr2 ⟨b, hβ, rfl⟩ hv0
      · show All2 _ (boxS (0, 0, p) 0 ls ++ parL (p + 1) qs) ((d1 ++ d2).take ls.length ++ parD qs ((d1 ++ d2).drop ls.length))
        rw [show (d1 ++ d2).take ls.length = d1 by rw [← hd1, List.take_left], show (d1 ++ d2).drop ls.length = d2 by rw [← hd1, List.drop_left]]
        refine .append (boxS_slots (G := { G with β := fun x => match idB (0, 0, p) x with | true => some (b, ls.length) | false => G.β x }) hβ ls d1 0 hd1 hb2.1 fun k s d k1 k2 => ?_) (hs.mono fun q d h => SlotRep.more (G := G) (G' := { G with β := fun x => match idB (0, 0, p) x with | true => some (b, ls.length) | false => G.β x }) rfl hm.β h)
        have hk : k < ls.length := by
          rcases Nat.lt_or_ge k ls.length with h | h
          · exact h
          · rw [List.getElem?_eq_none h] at k1; cases k1
        have hk' : k < c.size := by omega
        have h3 := hl k s d c[k] k1 k2 (Array.getElem?_eq_getElem hk')
        rw [Nat.zero_add]
        exact ⟨c[k], by simp [World.cell?, hh, hk'], by show LSRep G.ρ _ _ _ _ _; rw [e1]; exact h3⟩
    | fn =>
      obtain rfl : d1 = [] := h1
      obtain rfl : v = C.val := by simpa using hfn 0 rfl
      exact ⟨G, e1, Rep.putAt (l := .tmp p) (u := .one .fnv) (hr.mono usedP_mono) rfl hv0, hs⟩
/-- The state at a function's begin. -/
theorem start_ok (hlt : ∀ b, Ow ρ b → b < w.heap.size) (hsz : a.tmps.size = N) (hd : a.defers = []) {qs : List PS} {ds : List DL} {vs : List Value} (hb : allB parB qs = true) (hfn : FnAt C qs vs) (h : ParsRep ρ w 0 qs ds vs) (hv : ∀ (k : Nat) v, vs[k]? = some v → a.tmps.getD k undef = v) :
    ∃ G, G.ρ = ρ ∧ Rep C G N (usedB 1) (parS qs ds) a w := by
  obtain ⟨G, e1, hr, hs⟩ := parR_put (C := C) hlt hsz hd qs ds vs 0 hb hfn h (fun k v e => by rw [Nat.zero_add]; exact hv k v e)
  obtain ⟨G', e2, e3, hr'⟩ := unslots_put (rc := 0) (parL 0 qs) (parD qs ds) 0 hr (fun k => by rintro ⟨k', _, e⟩; simp at e) hs
  refine ⟨G', e2.trans e1, hr'.mono ?_⟩
  rintro id (⟨k, _, rfl⟩ | ⟨s, _, rfl⟩) <;> exact Nat.zero_lt_one
end
end Go.Proofs.Ytbgefphoochgcaa.FE
/- FE, part 39: functions: the way out; a function does what the evaluator finds. -/
namespace Go.Proofs.Ytbgefphoochgcaa.FE
open Go
set_option linter.unusedVariables false
set_option linter.unusedSimpArgs false
section
variable {Ω : Type} {C : CloRep Ω} {P : Program} {T : Tab} {N : Nat} {Φ : Env Ω}
variable {ρ ρ' : Nat → Option Own} {a : Act} {w : World} {G : Ghost}

/-- Who owns behind the call what was handed to the way out: n results, then what comes back (oo: which parameter it is). -/
def ren (n : Nat) (oo : Nat → Nat) : Own → Own
  | .at_ (.tmp k) => if k < n then .at_ (.comp 0 k) else .at_ (.tmp (oo k))
  | .at_ (.box id j) => if id.2.2 < n then .at_ (.box (0, 1, id.2.2) j) else .at_ (.box (0, 0, oo id.2.2) j)
  | .bx id => if id.2.2 < n then .bx (0, 1, id.2.2) else .bx (0, 0, oo id.2.2)
  | o => o
section
variable {n : Nat} {oo : Nat → Nat} (hρ : ∀ b o, ρ b = some o → ρ' b = some (ren n oo o)) (hf : ∀ b, ¬ Ow ρ b → ¬ Ow ρ' b)
include hρ hf
theorem res_out : ∀ {rs : List RS} {k : Nat} {ds : List DL} {vs : List Value}, k + rs.length ≤ n → ParsRep ρ w k (rs.map resQ) ds vs → ResList ρ' w k rs ds vs
  | [], k, ds, vs, hk, h => h
  | r :: rs, k, ds, vs, hk, ⟨d1, d2, v, vs', e1, e2, h1, h2⟩ => by
    rw [List.length_cons] at hk
    refine ⟨d1, d2, v, vs', e1, e2, ?_, res_out (by omega) h2⟩
    have hlt : k < n := by omega
    cases r with
    | v s =>
      have own : ∀ {d}, LSRep ρ w (.at_ (.tmp k)) s d v → LSRep ρ' w (.at_ (.comp 0 k)) s d v := fun h =>
        h.tr (fun b hb => by rw [hρ b _ hb]; simp only [ren, hlt, if_true]) hf
      cases s with
      | dat t => obtain ⟨x, e, h⟩ := h1; exact ⟨x, e, h.mono fun b _ h => ⟨rfl, hf b h⟩⟩
      | arr e' => obtain ⟨d, e, h⟩ := h1; exact ⟨d, e, own h⟩
      | omp k' u => obtain ⟨d, e, h⟩ := h1; exact ⟨d, e, own h⟩
    | bx ls =>
      have h1' : BoxRep ρ w (0, 0, k) ls d1 v := h1
      exact BoxRep.tr h1' (fun b hb => by rw [hρ b _ hb]; simp only [ren, hlt, if_true]) (fun j _ b hb => by rw [hρ b _ hb]; simp only [ren, hlt, if_true]) hf
theorem outs_out : ∀ {qs : List PS} {p k : Nat} {ds : List DL} {vs us : List Value}, n ≤ k → allB parB qs = true → (∀ (j : Nat) (q : Nat × PS), (outQ p qs)[j]? = some q → oo (k + j) = q.1) → ParsRep ρ w k ((outQ p qs).map (·.2)) ds vs →
    us.length = qs.length → (∀ (j : Nat) (q : Nat × PS) (v : Value), (outQ p qs)[j]? = some q → vs[j]? = some v → us[q.1 - p]? = some v) → OutsRep ρ' w p qs ds us
  | [], p, k, ds, vs, us, hk, hb, ho, h, hl, hu => ⟨h.1, List.length_eq_zero_iff.1 hl⟩
  | q :: qs, p, k, ds, vs, [], hk, hb, ho, h, hl, hu => by cases hl
  | q :: qs, p, k, ds, vs, u :: us, hk, hb, ho, h, hl, hu => by
    have hb2 : parB q = true ∧ allB parB qs = true := by
      simp only [allB] at hb
      split at hb
      · rename_i e; exact ⟨e, hb⟩
      · cases hb
    have hge : ∀ {qs : List PS} {p j : Nat} {q : Nat × PS}, (outQ p qs)[j]? = some q → p ≤ q.1 := by
      intro qs
      induction qs with
      | nil => intro p j q h; simp [outQ] at h
      | cons x qs ih =>
        intro p j q h
        cases x with
        | mu s => cases j with
          | zero => cases h; exact Nat.le_refl _
          | succ j => have := ih (p := p + 1) (j := j) (q := q) (by simpa [outQ] using h); omega
        | bx ls => cases j with
          | zero => cases h; exact Nat.le_refl _
          | succ j => have := ih (p := p + 1) (j := j) (q := q) (by simpa [outQ] using h); omega
        | v s => have := ih (p := p + 1) (j := j) (q := q) h; omega
        | ep s => have := ih (p := p + 1) (j := j) (q := q) h; omega
        | fn => have := ih (p := p + 1) (j := j) (q := q) h; omega
    have skip : outQ p (q :: qs) = outQ (p + 1) qs → OutRep ρ' w p q [] u → OutsRep ρ' w p (q :: qs) ds (u :: us) := by
      intro e1 e2
      rw [e1] at ho h hu
      refine ⟨[], ds, u, us, rfl, rfl, e2, outs_out hk hb2.2 ho h (by simpa using hl) fun j q' v k1 k2 => ?_⟩
      have := hu j q' v k1 k2
      have h2 := hge k1
      rw [show q'.1 - p = (q'.1 - (p + 1)) + 1 by omega] at this
      simpa using this
    have take : ∀ {q' : PS}, outQ p (q :: qs) = (p, q') :: outQ (p + 1) qs → (∀ d1 v, ParRep ρ w k q' d1 v → oo k = p → OutRep ρ' w p q d1 v) → OutsRep ρ' w p (q :: qs) ds (u :: us) := by
      intro q' e1 e2
      rw [e1] at ho h hu
      obtain ⟨d1, d2, v, vs', rfl, rfl, h1, h2⟩ := h
      have hv : u = v := by
        have := hu 0 (p, q') v rfl rfl
        simpa using this
      subst hv
      refine ⟨d1, d2, u, us, rfl, rfl, e2 _ _ h1 (by simpa using ho 0 _ rfl), outs_out (k := k + 1) (by omega) hb2.2 (fun j q' e => ?_) h2 (by simpa using hl) fun j q' v k1 k2 => ?_⟩
      · have := ho (j + 1) q' (by simpa using e)
        rwa [show k + (j + 1) = k + 1 + j by omega] at this
      · have := hu (j + 1) q' v (by simpa using k1) (by simpa using k2)
        have h2 := hge k1
        rw [show q'.1 - p = (q'.1 - (p + 1)) + 1 by omega] at this
        simpa using this
    have hn : ¬ k < n := by omega
    cases q with
    | v s => exact skip rfl rfl
    | ep t => exact skip rfl rfl
    | fn => exact skip rfl rfl
    | mu s =>
      refine take rfl fun d1 v h1 e => ?_
      obtain ⟨d, e1, h⟩ := h1
      refine ⟨d, e1, h.tr (fun b hb => ?_) hf⟩
      rw [hρ b _ hb]
      simp only [ren, hn, if_false, e]
    | bx ls =>
      refine take rfl fun d1 v h1 e => ?_
      have h1' : BoxRep ρ w (0, 0, k) ls d1 v := h1
      exact BoxRep.tr h1' (fun b hb => by rw [hρ b _ hb]; simp only [ren, hn, if_false, e]) (fun j _ b hb => by rw [hρ b _ hb]; simp only [ren, hn, if_false, e]) hf
end
/-- The value that a source stands for. -/
def SrcVal (P : Program) (a : Act) (w : World) : Src → Value → Prop
  | .op o, v => a.eval o = v
  | .cell t ty, v => ∃ ad, a.tmps.getD t undef = .pointer (some ad) ∧ (loadVar ty ad).run P w = .ok v w
theorem srcG_runs (hT : TabOk P T) {used : Id → Prop} {st : S Ω} {rs : List Loc} (hr : Rep C G N used st a w) {s : Src} {f : Operand → AV Ω → Prg Ω} {acc : List Loc} {ws : List (Loc × AV Ω)} (h : (srcG T s f).Runs st acc rs ws) :
    ∃ o v acc' x, (f o v).Runs st acc' rs ws ∧ RepAV C G w (opLoc o) v x ∧ (∀ t, o = .tmp t → v = st.get (.tmp t)) ∧ SrcVal P a w s x := by
  cases s with
  | op o =>
    obtain ⟨v, acc', h, hv, hs⟩ := runs_opG hr h
    exact ⟨o, v, acc', _, h, hv, hs, rfl⟩
  | cell t ty =>
    obtain ⟨ti, hti, h⟩ := runs_opt h
    have h' : Prg.Runs st (match st.get (.tmp t) with
      | .one (.ref b off _) => getN b off ti.size fun ls => (match loadB ti ls with | true => f (.const (.bool true)) (avOf (isSt ti.kind) ls) | false => .fail)
      | _ => .fail) (.tmp t :: acc) rs ws := h
    split at h'
    · rename_i b off n hg
      have h1 := hr.at_ (.tmp t)
      rw [hg] at h1
      obtain ⟨bl, hb, e⟩ := h1
      obtain ⟨ls, acc2, l, h', hlen, hx, hc⟩ := getN_runs hr hb _ _ h'
      split at h'
      · rename_i hlb
        simp only [loadB, Bool.and_eq_true, Bool.or_eq_true] at hlb
        have hl2 := hx.length
        have h1 := Nat.eq_of_beq_eq_true hlb.1
        obtain ⟨u, hu, hag⟩ := run_loadVar hT hti (b := bl) (off := off) (l := l) (by omega) hc (fun h => by
          rcases hlb.2 with h2 | h2
          · rw [h] at h2; cases h2
          · have := Nat.eq_of_beq_eq_true h2; omega)
        exact ⟨_, _, acc2, u, h', avOf_rep hx hag, fun t' e' => (by cases e'), _, e, hu⟩
      · exact h'.elim
    · exact h'.elim
theorem argsS_runs (hT : TabOk P T) {rc i : Nat} {used : Id → Prop} {rs : List Loc} {sc : Bool} (hf : FreshAt used rc i) : ∀ (qs : List PS) (os : List Src) (p : Nat) {G : Ghost} {st : S Ω} {f : List Pln → Prg Ω} {acc : List Loc} {ws : List (Loc × AV Ω)}, Rep C G N (usedA used rc i p) st a w → (argsS T sc rc i p qs os f).Runs st acc rs ws →
    ∃ xs ws' ws2 acc' G1 vs, ws = ws2 ++ ws' ∧ (f xs).Runs (ws' ++ st) acc' rs ws2 ∧ Moves G w G1 ∧ Rep C G1 N (usedA used rc i (p + qs.length)) (ws' ++ st) a w ∧ PlnsOk sc G1 w qs xs vs ∧ All2 (SrcVal P a w) os vs
  | [], [], p, G, st, f, acc, ws, hr, h => ⟨[], [], ws, acc, G, [], by simp, h, Step.refl' hr _, hr, trivial, .nil⟩
  | [], _ :: _, p, G, st, f, acc, ws, hr, h => h.elim
  | _ :: _, [], p, G, st, f, acc, ws, hr, h => h.elim
  | q :: qs, o :: os, p, G, st, f, acc, ws, hr, h => by
    have h' : Prg.Runs st (srcG T o fun x v => argP sc rc i p q x v fun x => argsS T sc rc i (p + 1) qs os fun xs => f (x :: xs)) acc rs ws := h
    obtain ⟨x0, v, acc1, u, h', hv, hs, hu⟩ := srcG_runs hT hr h'
    obtain ⟨x, ws', ws2, acc2, G1, rfl, h', hm, hr1, hx⟩ := argP_runs hr hv hs (usedA_new hf (by omega)) (usedA_new hf (by omega)) (used' := usedA used rc i (p + 1)) (by
      rintro id (h | ⟨s, h1, h2, e⟩)
      · exact .inl h
      · exact .inr ⟨s, h1, by omega, e⟩) (.inr ⟨_, by omega, by omega, rfl⟩) (.inr ⟨_, by omega, by omega, rfl⟩) h'
    obtain ⟨xs, ws3, ws4, acc3, G2, vs, rfl, h', hm2, hr2, hxs, hvs⟩ := argsS_runs hT hf qs os (p + 1) hr1 h'
    refine ⟨x :: xs, ws3 ++ ws', ws4, acc3, G2, u :: vs, by simp, by rw [List.append_assoc]; exact h', hm.moves hm2, ?_, ⟨hx.moves hm2, hxs⟩, .cons hu hvs⟩
    rw [List.append_assoc, List.length_cons, show p + (qs.length + 1) = p + 1 + qs.length by omega]
    exact hr2
theorem src_split {α β : Type} {R : α → β → Prop} : ∀ {A B : List α} {vs : List β}, All2 R (A ++ B) vs → ∃ v1 v2, vs = v1 ++ v2 ∧ All2 R A v1 ∧ All2 R B v2
  | [], B, vs, h => ⟨[], vs, rfl, .nil, h⟩
  | x :: A, B, _, .cons h t => by
    obtain ⟨v1, v2, rfl, h1, h2⟩ := src_split t
    exact ⟨_ :: v1, v2, rfl, .cons h h1, h2⟩
theorem results_src {fn : Func} {a : Act} {w : World} {vs : List Value} (h : All2 (SrcVal P a w) (fn.results.toList.map resS) vs) :
    (results fn a.tmps).run P w = .ok (if h : vs.toArray.size = 1 then vs.toArray[0] else .tuple vs.toArray) w := by
  unfold results
  have key : ∀ f : ResultVar → Sem Value, (∀ r v, SrcVal P a w (resS r) v → (f r).run P w = .ok v w) → (fn.results.mapM f).run P w = .ok vs.toArray w := by
    intro f hf
    rw [Array.mapM_eq_mapM_toList]
    generalize fn.results.toList = l at h
    have : ∀ (l : List ResultVar) (vs : List Value), All2 (SrcVal P a w) (l.map resS) vs → (l.mapM f).run P w = .ok vs w := by
      intro l
      induction l with
      | nil => intro vs h; cases h; rfl
      | cons r l ih =>
        intro vs h
        cases h with
        | cons h1 h2 =>
          have e1 := hf r _ h1
          have e2 := ih _ h2
          rw [List.mapM_cons]
          simp [e1, e2]
    simp [this l vs h]
  simp only [Sem.run_bind]
  rw [key _ (fun r v hv => by
    cases r with
    | tmp t =>
      have hv' : a.tmps.getD t undef = v := hv
      simp [hv']
    | cell b t =>
      obtain ⟨ad, e1, e2⟩ := hv
      simp [e1, asAddr, e2])]
  rfl
theorem outQ_lt : ∀ {qs : List PS} {p j : Nat} {q : Nat × PS}, (outQ p qs)[j]? = some q → p ≤ q.1 ∧ q.1 < p + qs.length := by
  intro qs
  induction qs with
  | nil => intro p j q h; simp [outQ] at h
  | cons x qs ih =>
    intro p j q h
    rw [List.length_cons]
    have go : ∀ {j}, (outQ (p + 1) qs)[j]? = some q → p ≤ q.1 ∧ q.1 < p + (qs.length + 1) := fun h => by
      have := ih h; omega
    cases x with
    | mu s => cases j with
      | zero => cases h; simp only; omega
      | succ j => exact go (j := j) (by simpa [outQ] using h)
    | bx ls => cases j with
      | zero => cases h; simp only; omega
      | succ j => exact go (j := j) (by simpa [outQ] using h)
    | v s => exact go h
    | ep s => exact go h
    | fn => exact go h
theorem resAll_of : ∀ {rs : List RS} {ds : List DL} {vs : Array Value}, vs.size = rs.length → ResList ρ w 0 rs ds vs.toList → ResAll ρ w rs ds (if h : vs.size = 1 then vs[0] else .tuple vs)
  | [], ds, vs, hl, h => h.1
  | [r], ds, vs, hl, h => by
    obtain ⟨c1, c2, v, vs', e3, e4, h5, h6⟩ := h
    obtain ⟨rfl, rfl⟩ := h6
    rw [e3, List.append_nil]
    have : vs = #[v] := Array.toList_inj.1 e4
    subst this
    exact h5
  | r :: r' :: rs, ds, vs, hl, h => by
    have : vs.size ≠ 1 := by rw [hl]; simp
    rw [dif_neg this]
    exact ⟨vs, rfl, h⟩
/-- The results, and what comes back. -/
theorem res_ok (hT : TabOk P T) {rc : Nat} {st : S Ω} {sg : Sig} {fn : Func} {y : El (outTy sg.outs)} {args : Array Value} (hr : Rep C G N (usedB rc) st a w) (h : resAll T sg fn.results.toList rc st = some y) (hb : allB parB sg.pars = true) (hlen : args.size = sg.pars.length)
    (hk : ∀ (j : Nat) (q : Nat × PS) (v : Value), (outQ 0 sg.pars)[j]? = some q → args.toList[q.1]? = some v → a.tmps.getD q.1 undef = v) :
    ∃ v ρ' d1 d2, (results fn a.tmps).run P w = .ok v w ∧ Fr G.ρ w ρ' w ∧ (∀ b, Ow ρ' b → b < w.heap.size) ∧ unOut sg.outs y = d1 ++ d2 ∧ ResAll ρ' w sg.res d1 v ∧ OutsRep ρ' w 0 sg.pars d2 args.toList ∧ ∀ b, G.ρ b = some .om → ρ' b = some .ext := by
  simp only [resAll] at h
  split at h
  · cases h
  rename_i hl
  have hl : fn.results.toList.length = sg.res.length := Nat.eq_of_beq_eq_true hl
  obtain ⟨rs, ws, h1, h2⟩ := Prg.runs_of_run h
  have hfr : FreshAt (usedB rc) rc 0 := freshB 0
  obtain ⟨xs, ws', ws2, acc', G1, vs, rfl, h1, hm, hr1, hx, hsv⟩ := argsS_runs hT hfr _ _ 0 (hr.mono fun _ h => .inl h) h1
  rcases (runs_ite h1).symm with ⟨_, h3⟩ | ⟨hdl, h3⟩
  · exact h3.elim
  obtain ⟨ds, acc2, h3, hp⟩ := readPs_runs (i := 0) hr1 _ xs _ 0 hx h3
  obtain ⟨y', hy', h4⟩ := runs_opt h3
  obtain ⟨rfl, -⟩ := h4
  have hyy : y' = y := by
    have h2' : cast? (outTy sg.outs) (outTy sg.outs) y' = some y := h2
    rw [cast_self] at h2'
    exact Option.some.inj h2'
  subst hyy
  have hun := mkOut_un hy'
  have hfe : ∀ b, ¬ Ow G1.ρ b → ¬ Ow (fun b => (G1.ρ b).map (trOwn rc 0 0 xs)) b := by
    intro b h h'
    refine h fun e => h' ?_
    show (G1.ρ b).map _ = none
    rw [e]; rfl
  have hpar := pars_in hfe hp hdl (fun l _ b hb => by show (G1.ρ b).map _ = _; rw [hb]; rfl) (fun l _ b hb => by show (G1.ρ b).map _ = _; rw [hb]; rfl)
  obtain ⟨d1, d2, v1, v2, e1, e2, k1, k2⟩ := pars_split hpar
  rw [List.length_map, Nat.zero_add] at k2
  let oo : Nat → Nat := fun k => match (outQ 0 sg.pars)[k - sg.res.length]? with | some q => q.1 | none => 0
  have hf2 : ∀ b, ¬ Ow (fun b => (G1.ρ b).map (trOwn rc 0 0 xs)) b → ¬ Ow (fun b => ((G1.ρ b).map (trOwn rc 0 0 xs)).map (ren sg.res.length oo)) b := by
    intro b h h'
    refine h fun e => h' ?_
    show ((G1.ρ b).map (trOwn rc 0 0 xs)).map _ = none
    have e' : (G1.ρ b).map (trOwn rc 0 0 xs) = none := e
    rw [e']; rfl
  have hρ2 : ∀ b o, (fun b => (G1.ρ b).map (trOwn rc 0 0 xs)) b = some o → (fun b => ((G1.ρ b).map (trOwn rc 0 0 xs)).map (ren sg.res.length oo)) b = some (ren sg.res.length oo o) := by
    intro b o e
    have e' : (G1.ρ b).map (trOwn rc 0 0 xs) = some o := e
    show ((G1.ρ b).map (trOwn rc 0 0 xs)).map _ = _
    rw [e']; rfl
  have hv1 : v1.length = sg.res.length := by rw [pars_len k1, List.length_map]
  obtain ⟨s1, s2, e5, s3, s4⟩ := src_split hsv
  have hs1 : s1.length = sg.res.length := by rw [← s3.length, List.length_map, hl]
  obtain ⟨rfl, rfl⟩ := List.append_inj (e5.symm.trans e2) (by rw [hs1, hv1])
  have hres := results_src s3
  have hR := res_out hρ2 hf2 (rs := sg.res) (k := 0) (by omega) k1
  have hO := outs_out hρ2 hf2 (qs := sg.pars) (p := 0) (k := sg.res.length) (us := args.toList) (Nat.le_refl _) hb (fun j q e => by
    show (match (outQ 0 sg.pars)[sg.res.length + j - sg.res.length]? with | some q => q.1 | none => 0) = q.1
    rw [Nat.add_sub_cancel_left, e]) k2 (by simpa using hlen) (fun j q v e3 e4 => by
      have e4 : a.tmps.getD q.1 undef = v := by
        obtain ⟨u, h5, h6⟩ := s4.get (i := j) (a := Src.op (.tmp q.1)) (by rw [List.getElem?_map, e3]; rfl)
        rw [h5] at e4
        cases e4
        exact h6
      have hq := outQ_lt e3
      have hq' : q.1 < args.toList.length := by simp; omega
      have := hk j q args.toList[q.1] e3 (List.getElem?_eq_getElem hq')
      rw [Nat.sub_zero, List.getElem?_eq_getElem hq', ← this, e4])
  refine ⟨_, _, d1, d2, hres, ?_, ?_, by rw [hun, e1], ?_, hO, fun b hb => ?_⟩
  · have hmf := hm.fr
    refine ⟨rfl, rfl, rfl, Nat.le_refl _, fun b hb hn => ⟨rfl, hf2 b (hfe b (hmf.free b hb hn).2)⟩, fun b hb => ⟨rfl, ?_⟩⟩
    have := (hmf.ext b hb).2
    show ((G1.ρ b).map (trOwn rc 0 0 xs)).map (ren sg.res.length oo) = some .ext
    rw [this, Option.map_some, trOwn_rest ⟨fun _ => by simp, fun _ => by simp⟩]
    rfl
  · intro b hb
    refine hr1.lt b fun e => hb ?_
    show ((G1.ρ b).map (trOwn rc 0 0 xs)).map _ = none
    rw [e]; rfl
  · exact resAll_of (by simpa using hv1) hR
  · have := (hm.om b hb (by simp)).2
    show ((G1.ρ b).map (trOwn rc 0 0 xs)).map (ren sg.res.length oo) = some .ext
    rw [this, Option.map_some, trOwn_rest ⟨fun _ => by simp, fun _ => by simp⟩]
    rfl
/-- A closure that stands for none. -/
def noClo : CloRep Unit := ⟨.func (.func 0) #[] #[], ⟨_, _, _, rfl⟩, fun _ _ _ _ => True, fun _ _ _ _ _ => trivial⟩
def fnB (sg : Sig) (fn : Func) : Bool :=
  match fn.body with
  | none => false
  | some c => and (codeB fn.ntmps ((outQ 0 sg.pars).map (·.1)) c) (and (allB parB sg.pars) (and (allB noFn sg.pars) (and (Nat.ble sg.pars.length fn.ntmps) (!(fn.name == "runtime.NumGoroutine")))))
theorem ParsRep.len {ds : List DL} {vs : List Value} {qs : List PS} {p : Nat} (h : ParsRep ρ w p qs ds vs) : vs.length = qs.length := pars_len h
/-- A function does in memory what the evaluator finds. -/
theorem fn_sound (hm : P.follows .mixedOrders = true) (hT : TabOk P T) {Φ : Env Unit} (hΦ : EnvOk P noClo Φ) {H : Hints} {fuel : Nat} {f : Nat} {fn : Func} {sg : Sig} (hf : P.funcs[f]? = some fn) (hB : fnB sg fn = true) : Sound P f ⟨sg, evFn T Φ H fuel sg fn⟩ := by
  unfold fnB at hB
  split at hB
  · cases hB
  rename_i c hc
  simp only [Bool.and_eq_true] at hB
  obtain ⟨hB1, hB2, hB5, hB3, hB4⟩ := hB
  have hB3 : sg.pars.length ≤ fn.ntmps := Nat.le_of_ble_eq_true hB3
  constructor
  · intro args w
    have h1 : fn.name ≠ "runtime.NumGoroutine" := by simpa using hB4
    simp [callFunc, hf, h1, hc, mark]
  · intro ρ w args x y hy hlt hpars
    have hlen : args.size = sg.pars.length := by simpa using hpars.len
    let a0 : Act := { tmps := args ++ Array.replicate (fn.ntmps - args.size) undef, defers := [] }
    have hget : ∀ (k : Nat) v, args.toList[k]? = some v → a0.tmps.getD k undef = v := by
      intro k v h
      have hk : k < args.size := by
        rcases Nat.lt_or_ge k args.size with h' | h'
        · exact h'
        · rw [List.getElem?_eq_none (by simpa using h')] at h; cases h
      have h' : args[k] = v := by simpa [hk] using h
      show (args ++ Array.replicate (fn.ntmps - args.size) undef).getD k undef = v
      rw [Array.getD_eq_getD_getElem?, Array.getElem?_append_left hk, Array.getElem?_eq_getElem hk, h']
      rfl
    have hsz : a0.tmps.size = fn.ntmps := by
      show (args ++ Array.replicate (fn.ntmps - args.size) undef).size = _
      simp; omega
    obtain ⟨G0, eG, hr0⟩ := start_ok (C := noClo) hlt hsz rfl hB2 (FnAt.none hB5) hpars hget
    have hy' : evFn T Φ H fuel sg fn x = some y := hy
    unfold evFn at hy'
    rw [hc] at hy'
    refine calls_of_wp hf hc (wp_mono (ev_ok hm hT hΦ c hB1 hy' hr0) fun e a' w' hq => ?_)
    have fin : ∀ {rc' : Nat} {st' : S Unit} {G' : Ghost}, Fr G0.ρ w G'.ρ w' → Rep noClo G' fn.ntmps (usedB rc') st' a' w' → Keep ((outQ 0 sg.pars).map (·.1)) a0 a' → resAll T sg fn.results.toList rc' st' = some y →
        bodyPost P fn (fun e w' => ∃ v ρ', e = .returned v ∧ Fr ρ w ρ' w' ∧ (∀ b, Ow ρ' b → b < w'.heap.size) ∧ ∃ d1 d2, unOut sg.outs y = d1 ++ d2 ∧ ResAll ρ' w' sg.res d1 v ∧ OutsRep ρ' w' 0 sg.pars d2 args.toList) .ret a' w' := by
      intro rc' st' G' q1 q2 q3 q4
      obtain ⟨v, ρ', d1, d2, r1, r2, r3, r4, r5, r6, -⟩ := res_ok (P := P) (args := args) hT q2 q4 hB2 hlen (fun j q v e1 e2 => by
        rw [q3 q.1 (List.mem_map.2 ⟨q, List.mem_of_getElem? e1, rfl⟩)]
        exact hget q.1 v e2)
      exact ⟨q2.defers, v, r1, v, ρ', rfl, by rw [← eG]; exact q1.trans r2, r3, d1, d2, r4, r5, r6⟩
    cases e with
    | normal =>
      obtain ⟨rc', st', G', q1, q2, q3, q4, q5, q6⟩ := hq
      exact fin q3 q4 q5 q6
    | ret =>
      obtain ⟨rc', st', G', q2, q3, q4, q5, y', q6, q7⟩ := hq
      cases q7
      exact fin q3 q4 q5 q6
    | exit i =>
      obtain ⟨rc', st', G', q1, q2, q3, q4, q5, q6⟩ := hq
      cases q6
    | _ => exact hq.elim
/-- Behind a function that takes a closure: the closure's memory is still the closure's. -/
def ρho (ρ ρ' : Nat → Option Own) : Nat → Option Own := fun b => match ρ b with | some .om => some .om | _ => ρ' b
theorem ρho_om {b : Nat} (h : ρ b = some .om) : ρho ρ ρ' b = some .om := by unfold ρho; rw [h]
theorem ρho_ne {b : Nat} (h : ρ b ≠ some .om) : ρho ρ ρ' b = ρ' b := by
  unfold ρho
  split
  · rename_i e; exact absurd e h
  · rfl
def fnBH (sg : Sig) (fn : Func) : Bool :=
  match fn.body with
  | none => false
  | some c => and (codeB fn.ntmps ((outQ 0 sg.pars).map (·.1)) c) (and (allB parB sg.pars) (and (Nat.ble sg.pars.length fn.ntmps) (!(fn.name == "runtime.NumGoroutine"))))
/-- A function that takes a closure does in memory what the evaluator finds, whatever the closure. -/
theorem hof_sound (hm : P.follows .mixedOrders = true) (hT : TabOk P T) {Φ : (Ω : Type) → (as : List Ty) → (b : Ty) → (Ω → Tup as → Option (El b × Ω)) → Env Ω} {as : List Ty} {bt : Ty}
    (hΦ : ∀ (Ω : Type) (C : CloRep Ω) (g : Ω → Tup as → Option (El bt × Ω)), CloOk P C as bt g → EnvOk P C (Φ Ω as bt g)) {H : Hints} {fuel : Nat} {f : Nat} {fn : Func} {sg : Sig} (hf : P.funcs[f]? = some fn) (hB : fnBH sg fn = true) :
    SoundH P f ⟨sg, as, bt, fun Ω g s x => evFnH T (Φ Ω as bt g) H fuel sg fn s x⟩ := by
  unfold fnBH at hB
  split at hB
  · cases hB
  rename_i c hc
  simp only [Bool.and_eq_true] at hB
  obtain ⟨hB1, hB2, hB3, hB4⟩ := hB
  have hB3 : sg.pars.length ≤ fn.ntmps := Nat.le_of_ble_eq_true hB3
  constructor
  · intro args w
    have h1 : fn.name ≠ "runtime.NumGoroutine" := by simpa using hB4
    simp [callFunc, hf, h1, hc, mark]
  · intro Ω C g hg ρ w args s x y hy hlt hpars hfn hK
    have hlen : args.size = sg.pars.length := by simpa using hpars.len
    let a0 : Act := { tmps := args ++ Array.replicate (fn.ntmps - args.size) undef, defers := [] }
    have hget : ∀ (k : Nat) v, args.toList[k]? = some v → a0.tmps.getD k undef = v := by
      intro k v h
      have hk : k < args.size := by
        rcases Nat.lt_or_ge k args.size with h' | h'
        · exact h'
        · rw [List.getElem?_eq_none (by simpa using h')] at h; cases h
      have h' : args[k] = v := by simpa [hk] using h
      show (args ++ Array.replicate (fn.ntmps - args.size) undef).getD k undef = v
      rw [Array.getD_eq_getD_getElem?, Array.getElem?_append_left hk, Array.getElem?_eq_getElem hk, h']
      rfl
    have hsz : a0.tmps.size = fn.ntmps := by
      show (args ++ Array.replicate (fn.ntmps - args.size) undef).size = _
      simp; omega
    obtain ⟨G0, eG, hr0⟩ := start_ok (C := C) hlt hsz rfl hB2 hfn hpars hget
    have hr1 : Rep C G0 fn.ntmps (usedB 1) ((.om, .one (.opq s)) :: parS sg.pars (unTup sg.ins x)) a0 w :=
      Rep.putR (l := .om) (u := .one (.opq s)) hr0 (.inr ⟨s, rfl, by unfold Ghost.O; rw [eG]; exact hK⟩)
    have hy' : evFnH T (Φ Ω as bt g) H fuel sg fn s x = some y := hy
    unfold evFnH at hy'
    rw [hc] at hy'
    refine calls_of_wp hf hc (wp_mono (ev_ok hm hT (hΦ Ω C g hg) c hB1 hy' hr1) fun e a' w' hq => ?_)
    have fin : ∀ {rc' : Nat} {st' : S Ω} {G' : Ghost}, Fr G0.ρ w G'.ρ w' → Rep C G' fn.ntmps (usedB rc') st' a' w' → Keep ((outQ 0 sg.pars).map (·.1)) a0 a' → resAllH T sg fn.results.toList rc' st' = some y →
        bodyPost P fn (fun e w' => ∃ v ρ', e = .returned v ∧ Fr ρ w ρ' w' ∧ (∀ b, Ow ρ' b → b < w'.heap.size) ∧ (∃ d1 d2, unOut sg.outs y.1 = d1 ++ d2 ∧ ResAll ρ' w' sg.res d1 v ∧ OutsRep ρ' w' 0 sg.pars d2 args.toList) ∧ C.K y.2 w' (fun b => ρ' b = some .om) (Ow ρ')) .ret a' w' := by
      intro rc' st' G' q1 q2 q3 q4
      simp only [resAllH, Option.bind_eq_some_iff] at q4
      obtain ⟨y1, q4, q5⟩ := q4
      split at q5
      · rename_i s' hs'
        cases q5
        obtain ⟨v, ρ', d1, d2, r1, r2, r3, r4, r5, r6, r7⟩ := res_ok (P := P) (args := args) hT q2 q4 hB2 hlen (fun j q v e1 e2 => by
          rw [q3 q.1 (List.mem_map.2 ⟨q, List.mem_of_getElem? e1, rfl⟩)]
          exact hget q.1 v e2)
        have fwd : ∀ b o, ρ' b = some o → o ≠ .om → o ≠ .ext → ρho G'.ρ ρ' b = some o := by
          intro b o e h1 h2
          by_cases hb : G'.ρ b = some .om
          · rw [r7 b hb] at e; cases e; exact absurd rfl h2
          · rw [ρho_ne hb, e]
        have sub : ∀ b, ¬ Ow ρ' b → ¬ Ow (ρho G'.ρ ρ') b := by
          intro b h h'
          by_cases hb : G'.ρ b = some .om
          · exact h (by unfold Ow; rw [r7 b hb]; simp)
          · unfold Ow at h'
            rw [ρho_ne hb] at h'
            exact h h'
        refine ⟨q2.defers, v, r1, v, ρho G'.ρ ρ', rfl, ?_, fun b hb => r3 b (Classical.byContradiction fun h => sub b h hb), ⟨d1, d2, r4, resAll_tr fwd sub r5, outs_tr fwd sub r6⟩, ?_⟩
        · rw [← eG]
          refine q1.trans ⟨rfl, rfl, rfl, Nat.le_refl _, fun b hb hn => ⟨rfl, sub b (r2.free b hb hn).2⟩, fun b hb => ⟨rfl, ?_⟩⟩
          rw [ρho_ne (by rw [hb]; simp)]
          exact (r2.ext b hb).2
        · exact C.stable (om_get q2 hs') (Nat.le_refl _) (fun _ _ => rfl) (fun b hb hn => ⟨rfl, sub b (r2.free b hb hn).2⟩) (fun b hb => ρho_om hb)
      · cases q5
    cases e with
    | normal =>
      obtain ⟨rc', st', G', q1, q2, q3, q4, q5, q6⟩ := hq
      exact fin q3 q4 q5 q6
    | ret =>
      obtain ⟨rc', st', G', q2, q3, q4, q5, y', q6, q7⟩ := hq
      cases q7
      exact fin q3 q4 q5 q6
    | exit i =>
      obtain ⟨rc', st', G', q1, q2, q3, q4, q5, q6⟩ := hq
      cases q6
    | _ => exact hq.elim
end
end Go.Proofs.Ytbgefphoochgcaa.FE
/- FE, part 40: Go's library: slices.Clone. -/
namespace Go.Proofs.Ytbgefphoochgcaa.FE
open Go
set_option linter.unusedVariables false
set_option linter.unusedSimpArgs false
section
variable {P : Program} {T : Tab}
/-- slices.Clone's text. -/
def cloneR (ts tb : Nat) (p1 p2 : String) (e2 : Array Edge) : Array Oper := #[⟨some 3, .move (.tmp 0), ts, p1, #[], none⟩, ⟨some 4, .binOp .eql ts (.tmp 3) (.const (.slice none 0 0)) ts, tb, p2, e2, none⟩]
def cloneB (ts : Nat) (p4 p5 p6 p7 : String) (e6 e7 : Array Edge) : Code :=
  .seq (.region 3 #[⟨some 5, .buildSlice ts 0 #[], ts, p4, #[], none⟩, ⟨some 6, .move (.tmp 0), ts, p5, #[], none⟩, ⟨some 7, .call ⟨.builtin .append, #[.tmp 5, .tmp 6], #[ts, ts]⟩, ts, p6, e6, none⟩, ⟨some 2, .assign (.tmp 7), ts, p7, e7, none⟩] false) .ret
def cloneC (ts tb : Nat) (p0 p1 p2 p3 p4 p5 p6 p7 : String) (e2 e6 e7 : Array Edge) : Code :=
  .seq (.region 0 #[⟨some 2, .assign (.const (.slice none 0 0)), ts, p0, #[], none⟩] false)
    (.seq (.seq (.region 1 (cloneR ts tb p1 p2 e2) false)
        (.cond (.tmp 4) (.seq (.region 2 #[⟨some 2, .assign (.const (.slice none 0 0)), ts, p3, #[], none⟩] false) .ret) .skip)) (cloneB ts p4 p5 p6 p7 e6 e7))
@[reducible] def cloneS (E : Ty) : Sig := ⟨[.v (.dat (.sl E))], [.v (.arr E)]⟩
def cloneF (E : Ty) (x : Tup (cloneS E).ins) : Option (El (outTy (cloneS E).outs)) := bif limB (x.1 : List (El E)).length then some x.1 else none
def cloneH : Hints := ⟨[(3, 0, 1), (3, 2, 1)], [], [], []⟩
def env0 : Env Unit := ⟨[], [], none⟩
theorem env0_ok : EnvOk P noClo env0 := ⟨fun f fn h => (by cases h), fun f h hh => (by cases hh), fun cl h => (by cases h)⟩
theorem clone_sound (hm : P.follows .mixedOrders = true) (hT : TabOk P T) {f ts tb et : Nat} {p0 p1 p2 p3 p4 p5 p6 p7 : String} {e2 e6 e7 : Array Edge} {fn : Func} {ti : TI} {E : Ty} (hf : P.funcs[f]? = some fn) (hname : (fn.name == "runtime.NumGoroutine") = false)
    (hti : T.get ts = some ti) (hk : ti.kind = .sl et) (hty : ti.ty = .sl E) (hbody : fn.body = some (cloneC ts tb p0 p1 p2 p3 p4 p5 p6 p7 e2 e6 e7)) (hres : fn.results = #[.tmp 2]) (hnt : fn.ntmps = 8) : Sound P f ⟨cloneS E, cloneF E⟩ := by
  constructor
  · intro args w
    have h1 : fn.name ≠ "runtime.NumGoroutine" := by simpa using hname
    simp [callFunc, hf, h1, hbody, mark]
  · intro ρ w args x y hy hlt hpars
    have hl : limB (x.1 : List (El E)).length = true ∧ y = x.1 := by
      have hy' : (bif limB (x.1 : List (El E)).length then some x.1 else none) = some y := hy
      cases hl : limB (x.1 : List (El E)).length with
      | true => rw [hl] at hy'; exact ⟨rfl, (Option.some.inj hy').symm⟩
      | false => rw [hl] at hy'; cases hy'
    obtain ⟨hl, rfl⟩ := hl
    have hlen : args.size = 1 := by simpa using hpars.len
    obtain ⟨v0, rfl⟩ : ∃ v, args = #[v] := ⟨args[0], by
      apply Array.ext
      · simpa using hlen
      · intro i h1 h2
        have : i = 0 := by simp at h2; exact h2
        subst this
        simp⟩
    obtain ⟨xs', u⟩ := x
    obtain ⟨xs, rfl⟩ : ∃ xs : List (El E), xs = xs' := ⟨xs', rfl⟩
    have hv0 : RepC w (Ow ρ) (.sl E) xs [v0] := by
      obtain ⟨d1, d2, v, vs', e1, e2, ⟨x1, e3, h⟩, ⟨e4, e5⟩⟩ := hpars
      have e1' : [(⟨.sl E, xs⟩ : DL)] = d1 ++ d2 := e1
      have e2' : [v0] = v :: vs' := e2
      rw [e3, e4] at e1'
      have e6 := (List.cons.inj e1').1
      obtain ⟨rfl, -⟩ := List.cons.inj e2'
      cases e6
      exact h
    obtain ⟨ad, cap, -, hle, hdat⟩ := hv0
    let a0 : Act := { tmps := #[v0] ++ Array.replicate (fn.ntmps - (#[v0] : Array Value).size) undef, defers := [] }
    have hsz : a0.tmps.size = 8 := by
      show (#[v0] ++ Array.replicate (fn.ntmps - (#[v0] : Array Value).size) undef).size = _
      rw [hnt]; rfl
    have hget : ∀ (k : Nat) v, (#[v0] : Array Value).toList[k]? = some v → a0.tmps.getD k undef = v := by
      intro k v h
      cases k with
      | zero =>
        cases h
        show (#[v0] ++ Array.replicate (fn.ntmps - (#[v0] : Array Value).size) undef).getD 0 undef = v0
        rw [Array.getD_eq_getD_getElem?, Array.getElem?_append_left (by simp)]
        rfl
      | succ k => simp at h
    obtain ⟨G0, eG, hr0⟩ := start_ok (C := noClo) hlt hsz rfl (qs := (cloneS E).pars) rfl (FnAt.none rfl) hpars hget
    have hr0 : Rep noClo G0 8 (usedB 1) ([(.tmp 0, .one (.dat (.sl E) xs))] : S Unit) a0 w := by
      have hp0 : (parS (cloneS E).pars (unTup (cloneS E).ins (xs, u)) : S Unit) = [(.tmp 0, .one (.dat (.sl E) xs))] := by
        have e : unTup (cloneS E).ins (xs, u) = [⟨.sl E, xs⟩] := rfl
        rw [e]; simp [parS, unslots, parL, parD, parR, cloneS, slotV, rowB, avOf, cast_self, unpack]
      rw [← hp0]; exact hr0
    have hf0 : a0.tmps.getD 0 undef = v0 := hget 0 v0 rfl
    refine calls_of_wp hf hbody ?_
    have fin : ∀ {rc' : Nat} {st' : S Unit} {G' : Ghost} {a' : Act} {w' : World}, Fr G0.ρ w G'.ρ w' → Rep noClo G' 8 (usedB rc') st' a' w' → resAll T (cloneS E) fn.results.toList rc' st' = some xs →
        bodyPost P fn (fun e w' => ∃ v ρ', e = .returned v ∧ Fr ρ w ρ' w' ∧ (∀ b, Ow ρ' b → b < w'.heap.size) ∧ ∃ d1 d2, unOut (cloneS E).outs xs = d1 ++ d2 ∧ ResAll ρ' w' (cloneS E).res d1 v ∧ OutsRep ρ' w' 0 (cloneS E).pars d2 (#[v0] : Array Value).toList) .ret a' w' := by
      intro rc' st' G' a' w' q1 q2 q4
      obtain ⟨v, ρ', d1, d2, r1, r2, r3, r4, r5, r6, -⟩ := res_ok (P := P) (args := #[v0]) hT q2 q4 rfl rfl (fun j q v e1 e2 => by simp [outQ] at e1)
      exact ⟨q2.defers, v, r1, v, ρ', rfl, by rw [← eG]; exact q1.trans r2, r3, d1, d2, r4, r5, r6⟩
    -- t2 := nil
    have ev0 : ev T env0 cloneH 0 false (fun _ (_ : S Unit) => (none : Option Unit)) (Nat × S Unit) (.region 0 #[⟨some 2, .assign (.const (.slice none 0 0)), ts, p0, #[], none⟩] false) 1 ([(.tmp 0, .one (.dat (.sl E) xs))]) (fun rc st => some (rc, st)) (fun _ _ _ => none) (fun _ => none) =
        some (2, (.tmp 2, .one .nilS) :: [(.tmp 0, .one (.dat (.sl E) xs))]) := rfl
    refine wp_seq (wp_mono (ev_ok (ps := []) hm hT env0_ok _ rfl ev0 hr0) fun e a1 w1 hq => ?_)
    cases e with
    | normal =>
      obtain ⟨rc', st1, G1, q1, q2, q3, q4, hk1, q5⟩ := hq
      obtain ⟨rfl, rfl⟩ := Prod.mk.inj (Option.some.inj q5)
      have hu := (hT.sl hti hk).1
      refine wp_seq (wp_seq (wp_region ?_))
      show wpOps P (cloneR ts tb p1 p2 e2) _ [0, 1] a1 w1
      have hg : (opG (.tmp 0) fun v => putP ⟨some 3, .move (.tmp 0), ts, p1, #[], none⟩ (copyV (.tmp 0) v)).Runs (((.tmp 2, .one .nilS) :: [(.tmp 0, .one (.dat (.sl E) xs))] : S Unit)) [] [.tmp 0] [(.tmp 3, .one (.dat (.sl E) xs))] := by
        simp [opG, Prg.Runs, putP, S.get, locB, parS, unTup, cloneS, readPs, copyV]
      rw [wpOps_cons]
      refine .inl (ok_move (rc := 2) (i := 0) (fun d hd => by cases hd; omega) q4 (fun s h => by have : 2 < 2 := h; omega) (acc := []) (rs := [.tmp 0]) (ws := [(.tmp 3, .one (.dat (.sl E) xs))]) hg _ _ fun G2 a2 w2 f2 h2 => ?_)
      rw [wpOps_cons]
      have h3 := h2.at_ (.tmp 3)
      obtain ⟨ad2, cap2, e3, _, hd2⟩ : RepC w2 G2.O (.sl E) xs [a2.tmps.getD 3 undef] := h3
      have e3 : a2.tmps.getD 3 undef = .slice ad2 xs.length cap2 := (List.cons.inj e3).1
      refine .inl ?_
      show Oper.wp P ⟨some 4, .binOp .eql ts (.tmp 3) (.const (.slice none 0 0)) ts, tb, p2, e2, none⟩ a2 w2 _ _
      refine (fin_dat (N := 8) (o := ⟨some 4, .binOp .eql ts (.tmp 3) (.const (.slice none 0 0)) ts, tb, p2, e2, none⟩) (acc := []) (rs := []) (rc := 2) (i := 1) (t := .bool) (x := ad2.isNone) (v := .bool ad2.isNone) (fun d hd => by cases hd; exact (by decide : 4 < 8)) h2 ?_ ⟨rfl, rfl⟩ (by
        have := Lib.run_eql_slice_nil (P := P) w2 ts et ad2 xs.length cap2 0 0 hu
        simp [execOp, Act.eval, e3, eqGuard, this]) rfl)
      intro G3 a3 w3 f3 h3
      have h3' : Rep noClo G3 8 (usedB 3) ([(.tmp 4, .one (.dat .bool ad2.isNone))] ++ ([(.tmp 3, .one (.dat (.sl E) xs))] ++ ((.tmp 2, .one .nilS) :: [(.tmp 0, .one (.dat (.sl E) xs))]))) a3 w3 := by
        refine h3.mono ?_
        rintro id ((h | ⟨s, rfl⟩) | ⟨s, rfl⟩)
        · exact Nat.lt_succ_of_lt h
        · exact Nat.lt_succ_self 2
        · exact Nat.lt_succ_self 2
      have hfr := (q3.trans f2).trans f3
      show (Code.cond (.tmp 4) _ _).wp P _ a3 w3
      cases hn : ad2.isNone with
      | true =>
        rw [hn] at h3'
        have hx : xs = [] := Classical.byContradiction fun h => by
          obtain ⟨b, off, e, _⟩ := hd2 h
          rw [e] at hn; cases hn
        subst hx
        have ev1 : ev T env0 cloneH 0 false (resAll T (cloneS E) fn.results.toList) (El (outTy (cloneS E).outs)) (.cond (.tmp 4) (.seq (.region 2 #[⟨some 2, .assign (.const (.slice none 0 0)), ts, p3, #[], none⟩] false) .ret) .skip) 3
            ([(.tmp 4, .one (.dat .bool true))] ++ ([(.tmp 3, .one (.dat (.sl E) ([] : List (El E))))] ++ ((.tmp 2, .one .nilS) :: [(.tmp 0, .one (.dat (.sl E) ([] : List (El E))))]))) (fun _ _ => none) (fun _ _ _ => none) (fun y => some y) = some ([] : List (El E)) := by
          have em : mkOut (List.flatMap RS.tys [RS.v (LS.arr E)] ++ List.flatMap PS.outs [PS.v (LS.dat E.sl)]) [⟨.sl E, ([] : List (El E))⟩] = some ([] : List (El E)) := cast_self
          rw [hres]; simp [em, ev, evOps, opP, resAll, argsS, srcG, opG, argP, takeV, takeK, readPs, readP, S.get, locB, Prg.run, putP, constAV, ownOf, frzOf, condV, setC, firstR, findH, cloneH, outQ, resQ, resS, cloneS, plnL, distL, inL, idV, idB, leafLS, Prg.opt, mkOut, cast_self, goL, Sig.outs, RS.tys, LS.ty, outTy]
          exact cast_self
        refine wp_mono (ev_ok (ps := []) hm hT env0_ok _ rfl ev1 h3') fun e a4 w4 hq => ?_
        cases e with
        | normal => obtain ⟨_, _, _, _, _, _, _, _, q5⟩ := hq; cases q5
        | exit i => obtain ⟨_, _, _, _, _, _, _, _, q5⟩ := hq; cases q5
        | ret =>
          obtain ⟨rc', st', G', k1, k2, k3, k4, y', k5, k6⟩ := hq
          cases k6
          exact fin (hfr.trans k2) k3 k5
        | _ => exact hq.elim
      | false =>
        rw [hn] at h3'
        have ev2 : ev T env0 cloneH 0 false (fun _ (_ : S Unit) => (none : Option Unit)) (Nat × S Unit) (.cond (.tmp 4) (.seq (.region 2 #[⟨some 2, .assign (.const (.slice none 0 0)), ts, p3, #[], none⟩] false) .ret) .skip) 3
            ([(.tmp 4, .one (.dat .bool false))] ++ ([(.tmp 3, .one (.dat (.sl E) xs))] ++ ((.tmp 2, .one .nilS) :: [(.tmp 0, .one (.dat (.sl E) xs))]))) (fun rc st => some (rc, st)) (fun _ _ _ => none) (fun _ => none) = some (3, (.tmp 4, .one (.dat .bool false)) :: ([(.tmp 4, .one (.dat .bool false))] ++ ([(.tmp 3, .one (.dat (.sl E) xs))] ++ ((.tmp 2, .one .nilS) :: [(.tmp 0, .one (.dat (.sl E) xs))])))) := by
          simp [ev, srcG, opG, S.get, locB, Prg.run, condV, setC]
        refine wp_mono (ev_ok (ps := []) hm hT env0_ok _ rfl ev2 h3') fun e a4 w4 hq => ?_
        cases e with
        | normal =>
          obtain ⟨rc', st', G4, k1, k2, k3, k4, k5, k6⟩ := hq
          obtain ⟨rfl, rfl⟩ := Prod.mk.inj (Option.some.inj k6)
          have ev3 : ev T env0 cloneH 0 false (resAll T (cloneS E) fn.results.toList) (El (outTy (cloneS E).outs)) (cloneB ts p4 p5 p6 p7 e6 e7) 3
            ((.tmp 4, .one (.dat .bool false)) :: [(.tmp 4, .one (.dat .bool false))] ++ ([(.tmp 3, .one (.dat (.sl E) xs))] ++ ((.tmp 2, .one .nilS) :: [(.tmp 0, .one (.dat (.sl E) xs))]))) (fun _ _ => none) (fun _ _ _ => none) (fun y => some y) = some xs := by
            have em : mkOut (List.flatMap RS.tys [RS.v (LS.arr E)] ++ List.flatMap PS.outs [PS.v (LS.dat E.sl)]) [⟨.sl E, xs⟩] = some xs := cast_self
            rw [hres]; simp [em, cloneB, elemsP, putS, borrow, copyV, slV, cast_self, unpack, ev, evOps, opP, resAll, argsS, srcG, opG, argP, takeV, takeK, readPs, readP, S.get, locB, Prg.run, putP, constAV, ownOf, frzOf, condV, setC, firstR, findH, cloneH, outQ, resQ, resS, cloneS, plnL, distL, inL, idV, idB, leafLS, Prg.opt, mkOut, cast_self, goL, Sig.outs, RS.tys, LS.ty, outTy, hti, hk, hty, hl]
            exact cast_self
          refine wp_mono (ev_ok (ps := []) hm hT env0_ok _ rfl ev3 k4) fun e a5 w5 hq => ?_
          cases e with
          | normal => obtain ⟨_, _, _, _, _, _, _, _, q5⟩ := hq; cases q5
          | exit i => obtain ⟨_, _, _, _, _, _, _, _, q5⟩ := hq; cases q5
          | ret =>
            obtain ⟨rc', st', G', l1, l2, l3, l4, y', l5, l6⟩ := hq
            cases l6
            exact fin ((hfr.trans k3).trans l2) l3 l5
          | _ => exact hq.elim
        | exit i => obtain ⟨rc', st', G', _, _, _, _, _, k6⟩ := hq; cases k6
        | ret => obtain ⟨rc', st', G', _, _, _, _, y', _, k7⟩ := hq; cases k7
        | _ => exact hq.elim
    | exit i => obtain ⟨rc', st', G', q1, q2, q3, q4, q5, q6⟩ := hq; cases q6
    | ret => obtain ⟨rc', st', G', q2, q3, q4, q5, y', q6, q7⟩ := hq; cases q6
    | _ => exact hq.elim
end
end Go.Proofs.Ytbgefphoochgcaa.FE
/- FE, part 41: Go's library: a row of ints that is written in place (slices.Sort, slices.Compact). -/
namespace Go.Proofs.Ytbgefphoochgcaa.FE
open Go
set_option linter.unusedVariables false
set_option linter.unusedSimpArgs false
/-! ### sorting, as the kernel can run it -/
def isins (x : Int) : List Int → List Int
  | [] => [x]
  | y :: l => if x ≤ y then x :: y :: l else y :: isins x l
def isort : List Int → List Int
  | [] => []
  | x :: l => isins x (isort l)
theorem isins_perm (x : Int) : ∀ l, (isins x l).Perm (x :: l)
  | [] => List.Perm.refl _
  | y :: l => by
    unfold isins
    split
    · exact List.Perm.refl _
    · exact ((isins_perm x l).cons y).trans (List.Perm.swap x y l)
theorem isort_perm : ∀ l, (isort l).Perm l
  | [] => List.Perm.refl _
  | x :: l => (isins_perm x (isort l)).trans ((isort_perm l).cons x)
theorem isort_length (l : List Int) : (isort l).length = l.length := (isort_perm l).length_eq
theorem isins_sorted (x : Int) : ∀ l : List Int, l.Pairwise (· ≤ ·) → (isins x l).Pairwise (· ≤ ·)
  | [], _ => List.pairwise_singleton _ _
  | y :: l, h => by
    unfold isins
    rw [List.pairwise_cons] at h
    split
    · rename_i hxy
      refine List.pairwise_cons.2 ⟨fun z hz => ?_, List.pairwise_cons.2 h⟩
      rcases List.mem_cons.1 hz with rfl | hz
      · exact hxy
      · have := h.1 z hz; omega
    · rename_i hxy
      refine List.pairwise_cons.2 ⟨fun z hz => ?_, isins_sorted x l h.2⟩
      rcases List.mem_cons.1 ((isins_perm x l).mem_iff.1 hz) with rfl | hz
      · omega
      · exact h.1 z hz
theorem isort_sorted : ∀ l : List Int, (isort l).Pairwise (· ≤ ·)
  | [] => List.Pairwise.nil
  | x :: l => isins_sorted x _ (isort_sorted l)
theorem sorted_unique : ∀ (a b : List Int), a.Pairwise (· ≤ ·) → b.Pairwise (· ≤ ·) → a.Perm b → a = b
  | [], b, _, _, h => (List.Perm.nil_eq h)
  | x :: a, [], _, _, h => absurd h.length_eq (by simp)
  | x :: a, y :: b, ha, hb, h => by
    rw [List.pairwise_cons] at ha hb
    have hxy : x = y := by
      have h1 : y ≤ x := by
        rcases List.mem_cons.1 (h.mem_iff.1 (List.mem_cons_self)) with e | e
        · omega
        · exact hb.1 x e
      have h2 : x ≤ y := by
        rcases List.mem_cons.1 (h.mem_iff.2 (List.mem_cons_self)) with e | e
        · omega
        · exact ha.1 y e
      omega
    subst hxy
    rw [sorted_unique a b ha.2 hb.2 (List.Perm.cons_inv h)]
theorem mergeSort_isort (l : List Int) : l.mergeSort (fun x y => decide (x ≤ y)) = isort l := by
  refine sorted_unique _ _ ?_ (isort_sorted l) ((List.mergeSort_perm l _).trans (isort_perm l).symm)
  have h := List.pairwise_mergeSort (le := fun x y : Int => decide (x ≤ y)) (by simp; omega) (by simp; omega) l
  exact h.imp (by simp)
section
variable {P : Program}
theorem enter_of {f : Nat} {fn : Func} (hf : P.funcs[f]? = some fn) (hname : (fn.name == "runtime.NumGoroutine") = false) (hbody : fn.body.isSome = true) (args : Array Value) (w : World) : (callFunc f args).run P w = .ok (.enter f args) w := by
  have h1 : fn.name ≠ "runtime.NumGoroutine" := by simpa using hname
  obtain ⟨c, hc⟩ := Option.isSome_iff_exists.1 hbody
  simp [callFunc, hf, h1, hc, mark]
/-- One argument. -/
theorem one_arg {ρ : Nat → Option Own} {w : World} {q : PS} {ds : List DL} {args : Array Value} (h : ParsRep ρ w 0 [q] ds args.toList) : ∃ v, args = #[v] ∧ ParRep ρ w 0 q ds v := by
  obtain ⟨d1, d2, v, vs', rfl, e2, h1, rfl, rfl⟩ := h
  refine ⟨v, ?_, by simpa using h1⟩
  apply Array.ext'
  simpa using e2
theorem cells_at {b : Nat} {el : TypeId} : ∀ (vs : List Value) (o : Nat) (w : World) (c : Array Value), w.heap[b]? = some (.cells c el (0, 0)) → o + vs.length ≤ c.size →
    ∃ c', (w.setCells b o vs).heap[b]? = some (.cells c' el (0, 0)) ∧ c'.size = c.size ∧ (∀ j, j < vs.length → c'[o + j]? = vs[j]?) ∧ ∀ k, k < o → c'[k]? = c[k]?
  | [], o, w, c, h, _ => ⟨c, h, rfl, fun j hj => absurd hj (by simp), fun _ _ => rfl⟩
  | v :: vs, o, w, c, h, hl => by
    simp only [List.length_cons] at hl
    have hb : b < w.heap.size := by
      rcases Nat.lt_or_ge b w.heap.size with h' | h'
      · exact h'
      · rw [Array.getElem?_eq_none h'] at h; cases h
    have hwb : w.heap[b] = .cells c el (0, 0) := (Array.getElem?_eq_some_iff.1 h).2
    have e1 : (w.setCell ⟨b, o, none⟩ v).heap[b]? = some (.cells (c.setIfInBounds o v) el (0, 0)) := by
      rw [setCell_eq_setRow w b o c el (0, 0) v h]
      simp [World.setRow, Array.getElem_modify, hb, Array.getElem?_modify, h, hwb]
    obtain ⟨c', h1, h2, h3, h4⟩ := cells_at vs (o + 1) _ _ e1 (by simp; omega)
    refine ⟨c', h1, by simpa using h2, ?_, fun k hk => by rw [h4 k (by omega), Array.getElem?_setIfInBounds_ne (by omega)]⟩
    intro j hj
    cases j with
    | zero =>
      rw [Nat.add_zero, h4 o (by omega)]
      simp [Array.getElem?_setIfInBounds_self, show o < c.size by omega]
    | succ j =>
      rw [show o + (j + 1) = o + 1 + j by omega, h3 j (by simpa using hj)]
      rfl
/-- Such a row, as the library's contracts hold it. -/
theorem holds_of {w : World} {b off : Nat} {el : TypeId} {c : Array Value} {O : Nat → Prop} {xs : List Int} (hh : w.heap[b]? = some (.cells c el (0, 0))) (hc : ∀ j (h : j < xs.length), ∃ vs, RepC w O (.int .i64) (xs[j] : Int) vs ∧ ∀ i v, vs[i]? = some v → c[off + j * width (.int .i64) + i]? = some v) :
    Go.Sort.Holds (Value.int .i64) w b off xs.toArray := by
  intro j hj
  have hj' : j < xs.length := by simpa using hj
  obtain ⟨vs, rfl, h2⟩ := hc j hj'
  have h3 : c[off + j]? = some (.int .i64 xs[j]) := by
    have := h2 0 _ rfl
    simpa [width] using this
  refine ⟨?_, by simp [World.frozen?, hh]⟩
  have : xs.toArray[j]! = xs[j] := by simp [hj']
  rw [this]
  simp [World.cell?, hh, h3]
/-- What is left: ys stands ahead in the row. -/
theorem row_out {ρ : Nat → Option Own} {w : World} {b off q : Nat} {os : Array Obj} {c : Array Value} {el : TypeId} {ys : List Int} {o : Own} (hlt : ∀ b, Ow ρ b → b < w.heap.size) (ho : ρ b = some o) (hoe : o ≠ .ext) (hh : w.heap[b]? = some (.cells c el (0, 0))) (hl : off + ys.length ≤ c.size) :
    Fr ρ w ρ (Go.Sort.grow ((w.drewN q).setCells b off (ys.map (Value.int .i64))) os) ∧ (∀ k, Ow ρ k → k < (Go.Sort.grow ((w.drewN q).setCells b off (ys.map (Value.int .i64))) os).heap.size) ∧
      ∃ c', (Go.Sort.grow ((w.drewN q).setCells b off (ys.map (Value.int .i64))) os).heap[b]? = some (.cells c' el (0, 0)) ∧ c'.size = c.size ∧ ∀ j (h : j < ys.length), c'[off + j]? = some (.int .i64 ys[j]) := by
  have hb : b < w.heap.size := hlt b (by unfold Ow; rw [ho]; simp)
  obtain ⟨c', h1, h2, h3, h4⟩ := cells_at (b := b) (el := el) (ys.map (Value.int .i64)) off (w.drewN q) c hh (by simpa using hl)
  have hkb : ∀ (vs : List Value) (o : Nat) (w : World), (w.setCells b o vs).os = w.os ∧ (w.setCells b o vs).tape = w.tape ∧ (w.setCells b o vs).output = w.output ∧ (w.setCells b o vs).heap.size = w.heap.size ∧ ∀ k, k ≠ b → (w.setCells b o vs).heap[k]? = w.heap[k]? := by
    intro vs
    induction vs with
    | nil => intro o w; exact ⟨rfl, rfl, rfl, rfl, fun _ _ => rfl⟩
    | cons v vs ih =>
      intro o w
      obtain ⟨i1, i2, i3, i4, i5⟩ := ih (o + 1) (w.setCell ⟨b, o, none⟩ v)
      rw [World.setCells]
      refine ⟨i1.trans rfl, i2.trans rfl, i3.trans rfl, i4.trans (by simp [World.setCell]), fun k hk => (i5 k hk).trans (by simp [World.setCell, Array.getElem?_modify, Ne.symm hk])⟩
  obtain ⟨kb1, kb2, kb3, kb4, kb5⟩ := hkb (ys.map (Value.int .i64)) off (w.drewN q)
  have hsz : ((w.drewN q).setCells b off (ys.map (Value.int .i64))).heap.size = w.heap.size := kb4
  have hold : ∀ k, k < w.heap.size → (Go.Sort.grow ((w.drewN q).setCells b off (ys.map (Value.int .i64))) os).heap[k]? = ((w.drewN q).setCells b off (ys.map (Value.int .i64))).heap[k]? := fun k hk => Go.Sort.heap_grow_old _ os (by rw [hsz]; exact hk)
  have hoth : ∀ k, k < w.heap.size → k ≠ b → (Go.Sort.grow ((w.drewN q).setCells b off (ys.map (Value.int .i64))) os).heap[k]? = w.heap[k]? := fun k hk hne => by
    rw [hold k hk, kb5 k hne]; rfl
  have hgs : w.heap.size ≤ (Go.Sort.grow ((w.drewN q).setCells b off (ys.map (Value.int .i64))) os).heap.size := by
    show _ ≤ (((w.drewN q).setCells b off (ys.map (Value.int .i64))).heap ++ os).size
    rw [Array.size_append, hsz]
    exact Nat.le_add_right _ _
  refine ⟨⟨?_, ?_, ?_, hgs, fun k hk hn => ⟨hoth k hk (fun e => hn (by rw [e]; unfold Ow; rw [ho]; simp)), hn⟩, fun k hk => ⟨hoth k (hlt k (by unfold Ow; rw [hk]; simp)) (fun e => ?_), hk⟩⟩, fun k hk => Nat.lt_of_lt_of_le (hlt k hk) hgs, c', by rw [hold b hb, h1], h2, fun j hj => ?_⟩
  · exact kb1
  · exact kb2
  · exact kb3
  · rw [e, ho] at hk; exact hoe (Option.some.inj hk)
  · rw [h3 j (by simpa using hj)]; simp [hj]
@[reducible] def sortS : Sig := ⟨[.mu (.arr (.int .i64))], []⟩
def sortF (x : Tup sortS.ins) : Option (El (outTy sortS.outs)) := bif limB (x.1 : List Int).length then some (isort (x.1 : List Int)) else none
theorem sort_sound {f : Nat} (henter : ∀ args w, (callFunc f args).run P w = .ok (.enter f args) w)
    (h0 : ∀ (p : Option Addr) (cap : Nat) (w : World), Calls P f #[.slice p 0 cap] w fun e w' => e = .returned (.tuple #[]) ∧ w' = w)
    (h1 : ∀ (blk off cap : Nat) (zs : List Int) (w : World), Go.Sort.Holds (Value.int .i64) w blk off zs.toArray → blk < w.heap.size → zs.length < 4611686018427387904 →
      Calls P f #[.slice (some ⟨blk, off, none⟩) zs.length cap] w fun e w' => e = .returned (.tuple #[]) ∧ ∃ n os, w' = Go.Sort.grow (Go.Sort.putRow (Value.int .i64) (Sort.ahead w n) blk off (zs.mergeSort fun x y => decide (x ≤ y)).toArray) os) :
    Sound P f ⟨sortS, sortF⟩ := by
  refine ⟨henter, fun ρ w args x y hy hlt hp => ?_⟩
  obtain ⟨v, rfl, d, e0, h⟩ := one_arg hp
  obtain ⟨xs', u⟩ := x
  obtain ⟨xs, rfl⟩ : ∃ xs : List Int, xs = xs' := ⟨xs', rfl⟩
  have hl : limB xs.length = true ∧ y = (xs.mergeSort fun x y => decide (x ≤ y)) := by
    have hy' : (bif limB xs.length then some (isort xs) else none) = some y := hy
    rw [← mergeSort_isort] at hy'
    cases hl : limB xs.length with
    | true => rw [hl] at hy'; exact ⟨rfl, (Option.some.inj hy').symm⟩
    | false => rw [hl] at hy'; cases hy'
  obtain ⟨hl, rfl⟩ := hl
  have hl : xs.length ≤ LIM := by simpa [limB] using hl
  have e0' : ([⟨.sl (.int .i64), xs⟩] : List DL) = [d] := e0
  cases e0'
  obtain ⟨zs, e1, h⟩ := h
  cases e1
  have fin : ∀ {ρ' : Nat → Option Own} {w' : World} {v' : Value}, ArrRep ρ' w' (.at_ (.tmp 0)) (.int .i64) (xs.mergeSort fun x y => decide (x ≤ y)) v → ∃ d1 d2, unOut sortS.outs (xs.mergeSort fun x y => decide (x ≤ y)) = d1 ++ d2 ∧ ResAll ρ' w' sortS.res d1 v' ∧ OutsRep ρ' w' 0 sortS.pars d2 (#[v] : Array Value).toList :=
    fun h => ⟨[], [⟨.sl (.int .i64), (xs.mergeSort fun x y => decide (x ≤ y) : List Int)⟩], rfl, rfl, [_], [], v, [], rfl, rfl, ⟨_, rfl, _, rfl, h⟩, rfl, rfl⟩
  rcases h with ⟨rfl, rfl⟩ | ⟨b, off, cap, c, el, rfl, hcap, ho, hh, hsz, hc⟩
  · refine (h0 none 0 w).mono ?_
    rintro e w' ⟨rfl, rfl⟩
    exact ⟨_, ρ, rfl, Fr.refl _ _, hlt, fin (.inl ⟨by simp, rfl⟩)⟩
  · have hH := holds_of hh hc
    have hw : width (.int .i64) = 1 := rfl
    refine (h1 b off cap xs w hH (hlt b (by unfold Ow; rw [ho]; simp)) (by unfold LIM at hl; omega)).mono ?_
    rintro e w' ⟨rfl, q, os, rfl⟩
    rw [Go.Lib.putRow_eq_setCells _ _ _ _ xs.toArray _ q hH (by simp)]
    obtain ⟨k1, k2, c', k3, k4, k5⟩ := row_out (q := q) (off := off) (os := os) (ys := xs.mergeSort fun x y => decide (x ≤ y)) hlt ho (by simp) hh (by simp; rw [hw] at hsz; omega)
    refine ⟨_, ρ, rfl, k1, k2, fin (.inr ⟨b, off, cap, c', el, by simp, by simpa using hcap, ho, k3, by rw [k4]; exact hsz, fun j hj => ⟨_, rfl, ?_⟩⟩)⟩
    intro i v hi
    cases i with
    | zero => cases hi; rw [hw]; simpa using k5 j hj
    | succ i => simp at hi
@[reducible] def compactS : Sig := ⟨[.v (.arr (.int .i64))], [.v (.arr (.int .i64))]⟩
def compactF (x : Tup compactS.ins) : Option (El (outTy compactS.outs)) := bif limB (x.1 : List Int).length then some (Lib.compact (x.1 : List Int)) else none
theorem compact_sound {f : Nat} (henter : ∀ args w, (callFunc f args).run P w = .ok (.enter f args) w)
    (h0 : ∀ (p : Option Addr) (cap : Nat) (w : World), Calls P f #[.slice p 0 cap] w fun e w' => e = .returned (.slice p 0 cap) ∧ w' = w)
    (h1 : ∀ (b off n c : Nat) (zs : List Int) (w : World), n ≤ zs.length → n ≤ 9223372036854775807 → n ≤ c → (∀ j, j < zs.length → w.cell? ⟨b, off + j, none⟩ = some (.int .i64 (zs.getD j 0))) → (∀ j, j < n → w.frozen? ⟨b, off + j, none⟩ = false) →
      Calls P f #[.slice (some ⟨b, off, none⟩) n c] w fun e w' => e = .returned (.slice (some ⟨b, off, none⟩) (Lib.compact (zs.take n)).length c) ∧ ∃ q, w' = (w.drewN q).setCells b off ((Lib.compact (zs.take n) ++ List.replicate (n - (Lib.compact (zs.take n)).length) 0).map (Value.int .i64))) :
    Sound P f ⟨compactS, compactF⟩ := by
  refine ⟨henter, fun ρ w args x y hy hlt hp => ?_⟩
  obtain ⟨v, rfl, d, e0, h⟩ := one_arg hp
  obtain ⟨xs', u⟩ := x
  obtain ⟨xs, rfl⟩ : ∃ xs : List Int, xs = xs' := ⟨xs', rfl⟩
  have hl : limB xs.length = true ∧ y = Lib.compact xs := by
    have hy' : (bif limB xs.length then some (Lib.compact xs) else none) = some y := hy
    cases hl : limB xs.length with
    | true => rw [hl] at hy'; exact ⟨rfl, (Option.some.inj hy').symm⟩
    | false => rw [hl] at hy'; cases hy'
  obtain ⟨hl, rfl⟩ := hl
  have hl : xs.length ≤ LIM := by simpa [limB] using hl
  have e0' : ([⟨.sl (.int .i64), xs⟩] : List DL) = [d] := e0
  cases e0'
  obtain ⟨zs, e1, h⟩ := h
  cases e1
  have fin : ∀ {ρ' : Nat → Option Own} {w' : World} {v' : Value}, ArrRep ρ' w' (.at_ (.comp 0 0)) (.int .i64) (Lib.compact xs) v' → ∃ d1 d2, unOut compactS.outs (Lib.compact xs) = d1 ++ d2 ∧ ResAll ρ' w' compactS.res d1 v' ∧ OutsRep ρ' w' 0 compactS.pars d2 (#[v] : Array Value).toList :=
    fun h => ⟨[⟨.sl (.int .i64), (Lib.compact xs : List Int)⟩], [], rfl, ⟨_, rfl, _, rfl, h⟩, [], [], v, [], rfl, rfl, rfl, rfl, rfl⟩
  rcases h with ⟨rfl, rfl⟩ | ⟨b, off, cap, c, el, rfl, hcap, ho, hh, hsz, hc⟩
  · refine (h0 none 0 w).mono ?_
    rintro e w' ⟨rfl, rfl⟩
    exact ⟨_, ρ, rfl, Fr.refl _ _, hlt, fin (.inl ⟨rfl, rfl⟩)⟩
  · have hH := holds_of hh hc
    have hw : width (.int .i64) = 1 := rfl
    have hcl := Lib.compact_length_le xs
    refine (h1 b off xs.length cap xs w (Nat.le_refl _) (by unfold LIM at hl; omega) hcap (fun j hj => ?_) (fun j hj => (hH j (by simpa using hj)).2)).mono ?_
    · rw [(hH j (by simpa using hj)).1]
      simp [hj]
    rintro e w' ⟨rfl, q, rfl⟩
    rw [List.take_length]
    obtain ⟨k1, k2, c', k3, k4, k5⟩ := row_out (q := q) (off := off) (os := #[]) (ys := Lib.compact xs ++ List.replicate (xs.length - (Lib.compact xs).length) 0) hlt ho (by simp) hh (by simp; rw [hw] at hsz; omega)
    have hg : ∀ w : World, Go.Sort.grow w #[] = w := fun w => by simp [Go.Sort.grow]
    rw [hg] at k1 k2 k3
    let ρ' : Nat → Option Own := fun k => match decide (k = b) with | true => some (.at_ (.comp 0 0)) | false => ρ k
    have hO : ∀ k, Ow ρ' k ↔ Ow ρ k := fun k => by
      show (match decide (k = b) with | true => some (.at_ (.comp 0 0)) | false => ρ k) ≠ none ↔ ρ k ≠ none
      by_cases e : k = b
      · subst e; simp [ho]
      · simp [e]
    refine ⟨_, ρ', rfl, ⟨k1.os, k1.tape, k1.output, k1.size, fun k h1 h2 => ⟨(k1.free k h1 h2).1, fun h => h2 ((hO k).1 h)⟩, fun k hk => ⟨(k1.ext k hk).1, ?_⟩⟩, fun k hk => k2 k ((hO k).1 hk), fin (.inr ⟨b, off, cap, c', el, rfl, by omega, by simp [ρ'], k3, by rw [k4]; exact hsz, fun j hj => ⟨_, rfl, ?_⟩⟩)⟩
    · have : k ≠ b := fun e => by subst e; rw [ho] at hk; cases hk
      simp [ρ', this, hk]
    intro i v hi
    cases i with
    | zero =>
      cases hi
      rw [hw]
      have := k5 j (by simp; omega)
      rw [List.getElem_append_left hj] at this
      simpa using this
    | succ i => simp at hi
end
end Go.Proofs.Ytbgefphoochgcaa.FE
/- FE, part 42: what comes in from outside: an argument that the row reads is data of a type. -/
namespace Go.Proofs.Ytbgefphoochgcaa.FE
open Go
set_option linter.unusedVariables false
set_option linter.unusedSimpArgs false
section
variable {P : Program}
/-! ### a Go type is that type -/
def fldsB (P : Program) (r : Nat → Ty → Bool) : List Field → Nat → Ty → Bool
  | [f], o, t => and (Nat.beq f.offset o) (and (Nat.beq (P.cellsOf f.type) (width t)) (r f.type t))
  | f :: g :: fs, o, .pair a b => and (Nat.beq f.offset o) (and (Nat.beq (P.cellsOf f.type) (width a)) (and (r f.type a) (fldsB P r (g :: fs) (o + width a) b)))
  | _, _, _ => false
def tyB (P : Program) : Nat → Nat → Ty → Bool
  | 0, _, _ => false
  | n + 1, t, ty => match ty, P.underlying t with
    | .bool, some .bool => true
    | .int k, some (.int k') => Nat.beq (IK k) (IK k')
    | .str, some .string => true
    | .sl E, some (.slice e) => and (Nat.beq (P.cellsOf e) (width E)) (and (Nat.blt 0 (width E)) (tyB P n e E))
    | .st r, some (.struct fs) => and (Nat.beq (P.cellsOf t) (width r)) (fldsB P (tyB P n) fs.toList 0 r)
    | _, _ => false
/-- What is known of data that comes in. -/
def Wf : (t : Ty) → El t → Prop
  | .int k, n => (Lit.int k n).wf = true
  | .str, s => (s : ByteArray).size ≤ maxLen
  | .pair a b, x => Wf a x.1 ∧ Wf b x.2
  | .st r, x => Wf r x
  | .sl e, xs => (xs : List (El e)).length ≤ maxLen ∧ ∀ x ∈ (xs : List (El e)), Wf e x
  | _, _ => True
theorem mapM_at {α β : Type} {f : α → Option β} : ∀ {l : List α} {r : List β}, l.mapM f = some r → r.length = l.length ∧ ∀ (i : Nat) x, l[i]? = some x → ∃ y, r[i]? = some y ∧ f x = some y
  | [], r, h => by
    simp at h; subst h
    exact ⟨rfl, fun i x h => by simp at h⟩
  | a :: l, r, h => by
    rw [List.mapM_cons] at h
    cases ha : f a with
    | none => rw [ha] at h; simp at h
    | some y =>
      cases hl : l.mapM f with
      | none => rw [ha, hl] at h; simp at h
      | some r' =>
        rw [ha, hl] at h
        simp at h; subst h
        obtain ⟨h1, h2⟩ := mapM_at hl
        refine ⟨by simp [h1], fun i x hx => ?_⟩
        cases i with
        | zero => simp at hx; subst hx; exact ⟨y, rfl, ha⟩
        | succ i => simpa using h2 i x (by simpa using hx)
/-- Row by row. -/
theorem pick_list {α : Type} {n : Nat} {p : Nat → α → Prop} (h : ∀ i, i < n → ∃ x, p i x) : ∃ xs : List α, xs.length = n ∧ ∀ i (hi : i < xs.length), p i xs[i] := by
  induction n with
  | zero => exact ⟨[], rfl, fun i hi => absurd hi (by simp)⟩
  | succ n ih =>
    obtain ⟨xs, h1, h2⟩ := ih (fun i hi => h i (by omega))
    obtain ⟨x, hx⟩ := h n (by omega)
    refine ⟨xs ++ [x], by simp [h1], fun i hi => ?_⟩
    rcases Nat.lt_or_ge i xs.length with hl | hl
    · rw [List.getElem_append_left hl]; exact h2 i hl
    · have : i = n := by simp at hi; omega
      subst this
      rw [List.getElem_append_right hl]
      simpa [h1] using hx
variable {H : Type} {enc : TypeId × Value → H} {w : World} {base : Nat} {spare : Nat → Bool} {held : Bool}
def Opens (P : Program) (enc : TypeId × Value → H) (w : World) (base : Nat) (spare : Nat → Bool) (held : Bool) (t : Nat) (ty : Ty) : Prop :=
  ∀ m cs y, DataW.trod enc P w base spare held m t cs = some y → ∃ x : El ty, RepC w (Ow fun _ => none) ty x cs ∧ Wf ty x
theorem flds_opens {m : Nat} {r : Nat → Ty → Bool} (hr : ∀ t ty, r t ty = true → Opens P enc w base spare held t ty) : ∀ (fs : List Field) (o : Nat) (ty : Ty) (cs : List Value), fldsB P r fs o ty = true →
    (∀ (i : Nat) (f : Field), fs[i]? = some f → ∃ y, DataW.trod enc P w base spare held m f.type ((cs.drop f.offset).take (P.cellsOf f.type)) = some y) → cs.length = o + width ty → ∃ x : El ty, RepC w (Ow fun _ => none) ty x (cs.drop o) ∧ Wf ty x
  | [], _, _, _, h, _, _ => by simp [fldsB] at h
  | [f], o, ty, cs, h, hy, hl => by
    simp only [fldsB, Bool.and_eq_true] at h
    obtain ⟨h1, h2, h3⟩ := h
    have h1 := Nat.eq_of_beq_eq_true h1
    have h2 := Nat.eq_of_beq_eq_true h2
    obtain ⟨y, h5⟩ := hy 0 f rfl
    rw [h1, h2] at h5
    obtain ⟨x, h6, h7⟩ := hr _ _ h3 _ _ _ h5
    rw [List.take_of_length_le (by simp; omega)] at h6
    exact ⟨x, h6, h7⟩
  | f :: g :: fs, o, ty, cs, h, hy, hl => by
    cases ty with
    | pair a b =>
      simp only [fldsB, Bool.and_eq_true] at h
      obtain ⟨h1, h2, h3, h8⟩ := h
      have h1 := Nat.eq_of_beq_eq_true h1
      have h2 := Nat.eq_of_beq_eq_true h2
      obtain ⟨y, h5⟩ := hy 0 f rfl
      rw [h1, h2] at h5
      obtain ⟨x, h6, h7⟩ := hr _ _ h3 _ _ _ h5
      have hw : cs.length = o + width a + width b := by rw [hl]; show _ + (width a + width b) = _; omega
      obtain ⟨x2, k1, k2⟩ := flds_opens (m := m) hr (g :: fs) (o + width a) b cs h8 (fun i f' hf => hy (i + 1) f' (by simpa using hf)) hw
      exact ⟨(x, x2), ⟨_, _, by rw [← List.drop_drop]; exact (List.take_append_drop (width a) (cs.drop o)).symm, h6, k1⟩, h7, k2⟩
    | _ => simp [fldsB] at h
theorem cells_At {a : Addr} {n : Nat} {l : List Value} (h : w.cells? base a n = some l) (hn : 0 < n) : a.spot = none ∧ l.length = n ∧ At w a.block a.off l := by
  unfold World.cells? at h
  split at h
  · obtain ⟨h1, h2⟩ := mapM_at h
    have hl : l.length = n := by simpa using h1
    obtain ⟨y0, -, h3⟩ := h2 0 0 (by simp [hn])
    have hs : a.spot = none := by simpa [Addr.add] using World.cell?_spot h3
    have hc : ∀ i v, l[i]? = some v → w.cell? ⟨a.block, a.off + i, none⟩ = some v := by
      intro i v hv
      have hi : i < n := by
        rcases Nat.lt_or_ge i l.length with h' | h'
        · omega
        · rw [List.getElem?_eq_none h'] at hv; cases hv
      obtain ⟨y, hy, hz⟩ := h2 i i (by simp [hi])
      rw [hv] at hy; cases hy
      have : a.add i = ⟨a.block, a.off + i, none⟩ := by
        unfold Addr.add
        split
        · rename_i e; subst e; cases a; simp_all
        · rfl
      rw [← this]; exact hz
    have hb : ∃ c el fz, w.heap[a.block]? = some (.cells c el fz) := by
      have := hc 0 y0 (by
        obtain ⟨y, hy, hz⟩ := h2 0 0 (by simp [hn])
        rw [h3] at hz; cases hz; exact hy)
      unfold World.cell? at this
      split at this
      · rename_i c el fz e; exact ⟨c, el, fz, e⟩
      · cases this
    obtain ⟨c, el, fz, hh⟩ := hb
    refine ⟨hs, hl, c, el, fz, hh, fun i v hv => ?_⟩
    simpa [World.cell?, hh] using hc i v hv
  · cases h
theorem opens : ∀ (n t : Nat) (ty : Ty), tyB P n t ty = true → Opens P enc w base spare held t ty := by
  intro n
  induction n with
  | zero => intro t ty h; cases h
  | succ n ih =>
    intro t ty h m cs y hy
    cases hu : P.underlying t with
    | none => cases ty <;> simp [tyB, hu] at h
    | some d =>
    cases ty with
    | bool =>
      cases d <;> simp [tyB, hu] at h
      obtain ⟨b, rfl, -⟩ := DataW.trod_bool hu hy
      exact ⟨b, rfl, trivial⟩
    | int k =>
      cases d <;> simp [tyB, hu] at h
      have hk := IK_inj h
      subst hk
      obtain ⟨b, rfl, -, hw⟩ := DataW.trod_int hu hy
      exact ⟨b, rfl, hw⟩
    | str =>
      cases d <;> simp [tyB, hu] at h
      obtain ⟨b, rfl, -, hw⟩ := DataW.trod_string hu hy
      exact ⟨b, rfl, hw⟩
    | sl E =>
      cases d <;> simp [tyB, hu] at h
      rename_i e
      obtain ⟨h1, h2, h3⟩ := h
      have h1 : P.cellsOf e = width E := h1
      rcases DataW.trod_slice hu hy with ⟨rfl, -⟩ | ⟨a, len, cap, elems, rest, q, rfl, rfl, -, hb, hlc, hcm, hel, hat, -, -⟩
      · exact ⟨([] : List (El E)), ⟨none, 0, rfl, Nat.le_refl _, fun h => absurd rfl h⟩, Nat.zero_le _, fun x hx => absurd hx (by simp)⟩
      · have hrow : ∀ i, i < len → ∃ p : El E, (∃ l, a.spot = none ∧ RepC w (Ow fun _ => none) E p l ∧ At w a.block (a.off + i * width E) l) ∧ Wf E p := by
          intro i hi
          have h := hat i hi
          rw [List.getElem?_eq_getElem (by omega : i < elems.length)] at h
          obtain ⟨l, h4, h5⟩ := Option.bind_eq_some_iff.1 h
          obtain ⟨p, h6, h7⟩ := ih e E h3 _ _ _ h5
          rw [h1] at h4
          have hadd : a.add (i * width E) = a ∨ a.add (i * width E) = ⟨a.block, a.off + i * width E, none⟩ := by
            unfold Addr.add
            split
            · exact .inl rfl
            · exact .inr rfl
          obtain ⟨k1, k2, k3⟩ := cells_At h4 h2
          rcases hadd with e1 | e1
          · rw [e1] at k1 k3
            refine ⟨p, ⟨l, k1, h6, ?_⟩, h7⟩
            have : i * width E = 0 := by
              unfold Addr.add at e1
              split at e1
              · assumption
              · have := congrArg Addr.off e1
                simp at this
                omega
            rw [this]; exact k3
          · obtain ⟨l0, h40, -⟩ := Option.bind_eq_some_iff.1 (by have h := hat 0 (by omega); rw [List.getElem?_eq_getElem (by omega : 0 < elems.length)] at h; exact h)
            rw [h1] at h40
            have k0 := (cells_At h40 h2).1
            rw [show a.add (0 * width E) = a by simp [Addr.add]] at k0
            rw [e1] at k3
            exact ⟨p, ⟨l, k0, h6, k3⟩, h7⟩
        obtain ⟨xs, hx1, hx2⟩ := pick_list hrow
        refine ⟨xs, ⟨some a, cap, by rw [hx1], by rw [hx1]; exact hlc, fun hne => ?_⟩, by rw [hx1]; exact Nat.le_trans hlc hcm, fun x hx => ?_⟩
        · have h0 : 0 < xs.length := List.length_pos_iff.2 hne
          obtain ⟨⟨l, k1, k2, k3⟩, -⟩ := hx2 0 h0
          refine ⟨a.block, a.off, by cases a; simp_all, fun h => h rfl, fun j hj => ?_⟩
          obtain ⟨⟨l, k1, k2, k3⟩, -⟩ := hx2 j hj
          exact ⟨l, k2, k3⟩
        · obtain ⟨i, hi, rfl⟩ := List.mem_iff_getElem.1 hx
          exact (hx2 i hi).2
    | st r =>
      cases d <;> simp [tyB, hu] at h
      rename_i fs
      obtain ⟨h1, h2⟩ := h
      have h1 : P.cellsOf t = width r := h1
      obtain ⟨xs, q, rfl, -, hl, hxs, hat⟩ := DataW.trod_struct hu hy
      have hat' : ∀ (i : Nat) (f : Field), fs.toList[i]? = some f → ∃ y, DataW.trod enc P w base spare held q f.type ((cs.drop f.offset).take (P.cellsOf f.type)) = some y := by
        intro i f hf
        have hf' : fs[i]? = some f := by simpa using hf
        have hi : i < fs.size := by
          rcases Nat.lt_or_ge i fs.size with h' | h'
          · exact h'
          · rw [Array.getElem?_eq_none h'] at hf'; cases hf'
        exact ⟨_, by rw [hat i f hf', List.getElem?_eq_getElem (by omega : i < xs.length)]⟩
      obtain ⟨x, k1, k2⟩ := flds_opens (enc := enc) (w := w) (base := base) (spare := spare) (held := held) (m := q) ih fs.toList 0 r cs h2 hat' (by rw [hl, h1]; simp)
      exact ⟨x, by rw [List.drop_zero] at k1; exact k1, k2⟩
    | _ => simp [tyB, hu] at h
/-- An argument that the row reads. -/
theorem arg_opens {n t : Nat} {ty : Ty} {base' : Nat} {v : Value} {d : DataW H} {ps : List MemPlace} (h : tyB P n t ty = true) (hv : Value.okWide P w .any base' t v) (hd : DataW.Trod enc P w base spare held t v d ps) :
    ∃ x : El ty, RepV w (Ow fun _ => none) ty x v ∧ Wf ty x := by
  obtain ⟨m, hm⟩ := hd
  obtain ⟨x, h1, h2⟩ := opens n t ty h m _ _ hm
  refine ⟨x, ?_, h2⟩
  cases n with
  | zero => cases h
  | succ n =>
  cases hu : P.underlying t with
  | none => cases ty <;> simp [tyB, hu] at h
  | some d =>
  unfold RepV Val
  cases ty with
  | st r =>
    cases d <;> simp [tyB, hu] at h
    simp only [Value.okWide, hu] at hv
    obtain ⟨cs, rfl, -⟩ := hv
    exact ⟨cs, rfl, h1⟩
  | pair a b => simp [tyB] at h
  | unit => simp [tyB] at h
  | mp a b => simp [tyB] at h
  | pt a => simp [tyB] at h
  | _ =>
    cases d <;> simp [tyB, hu] at h
    simp only [Value.okWide, hu, Cell.okWide] at hv
    cases v <;> first | exact h1 | (simp [Cell.ok, hu] at hv; done)
theorem pars_cons {ρ : Nat → Option Own} {p : Nat} {t : Ty} {x : El t} {v : Value} {ps : List PS} {ds : List DL} {vs : List Value} (h : RepV w (Ow ρ) t x v) (hr : ParsRep ρ w (p + 1) ps ds vs) : ParsRep ρ w p (.v (.dat t) :: ps) (⟨t, x⟩ :: ds) (v :: vs) :=
  ⟨[⟨t, x⟩], ds, v, vs, rfl, rfl, ⟨x, rfl, h⟩, hr⟩
theorem pars_nil {ρ : Nat → Option Own} {p : Nat} : ParsRep ρ w p [] [] [] := ⟨rfl, rfl⟩
theorem below_of {ρ' : Nat → Option Own} {w' : World} (h : Fr (fun _ => none) w ρ' w') : RowKit.Below w.heap.size w w' := ⟨h.os, h.tape, h.output, h.size, fun k hk => (h.free k hk (fun h => h rfl)).1⟩
/-- A law: it holds. -/
theorem law_calls {f : Nat} {sg : Sig} {F : Tup sg.ins → Option (El (outTy sg.outs))} {y : El (outTy sg.outs)} {x : Tup sg.ins} {args : Array Value} (hs : Sound P f ⟨sg, F⟩) (hres : sg.res = [.v (.dat .bool)]) (hy : F x = some y) (ho : unOut sg.outs y = [⟨.bool, true⟩])
    (hp : ParsRep (fun _ => none) w 0 sg.pars (unTup sg.ins x) args.toList) : Calls P f args w fun e w' => e = .returned (.bool true) ∧ RowKit.Below w.heap.size w w' := by
  refine (hs.calls (fun _ => none) w args x y hy (fun b h => absurd rfl h) hp).mono ?_
  rintro e w' ⟨v, ρ', rfl, fr, -, d1, d2, e1, h, -⟩
  have e1 : unOut sg.outs y = d1 ++ d2 := e1
  have h0 : ResAll ρ' w' sg.res d1 v := h
  clear h
  rw [hres] at h0
  obtain ⟨b, rfl, h1⟩ := h0
  rw [ho] at e1
  have e2 := (List.cons.inj e1).1
  cases e2
  have : [v] = [.bool true] := h1
  cases this
  exact ⟨rfl, below_of fr⟩
end
end Go.Proofs.Ytbgefphoochgcaa.FE
/- Plain words for what FE prints: what holds for all fuel from some on; loops; lists. -/
namespace Go.Proofs.Ytbgefphoochgcaa.FE
open Go
set_option linter.unusedVariables false
set_option linter.unusedSimpArgs false
/-- From some fuel on. -/
def EvS {γ : Sort _} (f : Nat → γ) (g : γ) : Prop := ∃ K, ∀ k, K ≤ k → f k = g
theorem EvS.const {γ : Sort _} (g : γ) : EvS (fun _ => g) g := ⟨0, fun _ _ => rfl⟩
theorem EvS.of {γ : Sort _} {f : Nat → γ} {g : γ} (h : ∀ k, f k = g) : EvS f g := ⟨0, fun k _ => h k⟩
theorem EvS.bind {α β : Type} {f : Nat → Option α} {y : α} {g : Nat → α → Option β} {z : Option β} (hf : EvS f (some y)) (hg : EvS (fun k => g k y) z) : EvS (fun k => (f k).bind (g k)) z := by
  obtain ⟨K, h⟩ := hf
  obtain ⟨L, k⟩ := hg
  exact ⟨max K L, fun n hn => by show (f n).bind (g n) = z; rw [h n (by omega)]; exact k n (by omega)⟩
theorem EvS.step {γ : Sort _} {f f' : Nat → γ} {g : γ} (e : ∀ k, f k = f' k) (h : EvS f' g) : EvS f g := by
  obtain ⟨K, h⟩ := h
  exact ⟨K, fun k hk => (e k).trans (h k hk)⟩
theorem EvS.both {γ δ : Sort _} {f : Nat → γ} {g : γ} {f' : Nat → δ} {g' : δ} (h : EvS f g) (h' : EvS f' g') : ∃ K, ∀ k, K ≤ k → f k = g ∧ f' k = g' := by
  obtain ⟨K, h⟩ := h
  obtain ⟨L, k⟩ := h'
  exact ⟨max K L, fun n hn => ⟨h n (by omega), k n (by omega)⟩⟩
theorem EvS.some {α : Type} {f : Nat → Option α} {y : α} (h : EvS f (.some y)) : ∃ k, f k = .some y := by
  obtain ⟨K, h⟩ := h
  exact ⟨K, h K (Nat.le_refl _)⟩
/-- A loop. -/
theorem loop_ev {α β : Type} {step : Nat → (α → Option β) → α → Option β} (Inv : α → Prop) (μ : α → Nat) (R : α → Option β)
    (h : ∀ a, Inv a → EvS (fun k self => step k self a) (fun _ => R a) ∨ ∃ a', Inv a' ∧ μ a' < μ a ∧ R a' = R a ∧ EvS (fun k self => step k self a) (fun self => self a')) (a : α) (ha : Inv a) :
    EvS (fun k => iter (step k) k a) (R a) := by
  have main : ∀ n a, μ a = n → Inv a → ∃ K, ∀ k m, K ≤ k → K ≤ m → iter (step k) m a = R a := by
    intro n
    induction n using Nat.strongRecOn with
    | _ n ih =>
      intro a hn ha
      rcases h a ha with ⟨K, hK⟩ | ⟨a', h1, h2, h3, K, hK⟩
      · refine ⟨K + 1, fun k m hk hm => ?_⟩
        cases m with
        | zero => omega
        | succ m => exact congrFun (hK k (by omega)) (iter (step k) m)
      · obtain ⟨L, hL⟩ := ih (μ a') (by omega) a' rfl h1
        refine ⟨max K L + 1, fun k m hk hm => ?_⟩
        cases m with
        | zero => omega
        | succ m =>
          rw [← h3, ← hL k m (by omega) (by omega)]
          exact congrFun (hK k (by omega)) (iter (step k) m)
  obtain ⟨K, hK⟩ := main _ a rfl ha
  exact ⟨K, fun k hk => hK k k hk hk⟩
/-- A loop that counts from i to n, with a state. -/
theorem count_from {σ β : Type} (n : Nat) (J : Nat → σ → Prop) (R : Nat → σ → Option β) {step : Nat → (Int × σ → Option β) → Int × σ → Option β}
    (hend : ∀ s, J n s → EvS (fun k self => step k self ((n : Int), s)) (fun _ => R n s))
    (hstep : ∀ i s, i < n → J i s → EvS (fun k self => step k self ((i : Int), s)) (fun _ => R i s) ∨ ∃ s', J (i + 1) s' ∧ R (i + 1) s' = R i s ∧ EvS (fun k self => step k self ((i : Int), s)) (fun self => self (((i + 1 : Nat) : Int), s')))
    (i : Nat) (hi : i ≤ n) (s : σ) (h0 : J i s) : EvS (fun k => iter (step k) k ((i : Int), s)) (R i s) := by
  refine loop_ev (fun a => ∃ j : Nat, a.1 = (j : Int) ∧ j ≤ n ∧ J j a.2) (fun a => n - a.1.toNat) (fun a => R a.1.toNat a.2) ?_ ((i : Int), s) ⟨i, rfl, hi, h0⟩
  rintro ⟨a, s⟩ ⟨j, e, hj, hJ⟩
  simp only at e hJ
  subst e
  simp only [Int.toNat_natCast]
  rcases Nat.lt_or_ge j n with h | h
  · rcases hstep j s h hJ with h1 | ⟨s', h1, h2, h3⟩
    · exact .inl h1
    · exact .inr ⟨(((j + 1 : Nat) : Int), s'), ⟨j + 1, rfl, h, h1⟩, by simp only [Int.toNat_natCast]; omega, by simpa only [Int.toNat_natCast] using h2, h3⟩
  · obtain rfl : j = n := by omega
    exact .inl (hend s hJ)
theorem count_ev {σ β : Type} (n : Nat) (J : Nat → σ → Prop) (R : Nat → σ → Option β) {step : Nat → (Int × σ → Option β) → Int × σ → Option β}
    (hend : ∀ s, J n s → EvS (fun k self => step k self ((n : Int), s)) (fun _ => R n s))
    (hstep : ∀ i s, i < n → J i s → EvS (fun k self => step k self ((i : Int), s)) (fun _ => R i s) ∨ ∃ s', J (i + 1) s' ∧ R (i + 1) s' = R i s ∧ EvS (fun k self => step k self ((i : Int), s)) (fun self => self (((i + 1 : Nat) : Int), s')))
    (s : σ) (h0 : J 0 s) : EvS (fun k => iter (step k) k ((0 : Int), s)) (R 0 s) := count_from n J R hend hstep 0 (Nat.zero_le _) s h0
/-- .. without. -/
theorem count_ev0 {β : Type} (n : Nat) (R : Nat → Option β) {step : Nat → (Int → Option β) → Int → Option β}
    (hend : EvS (fun k self => step k self (n : Int)) (fun _ => R n))
    (hstep : ∀ i, i < n → EvS (fun k self => step k self (i : Int)) (fun _ => R i) ∨ (R (i + 1) = R i ∧ EvS (fun k self => step k self (i : Int)) (fun self => self ((i + 1 : Nat) : Int)))) :
    EvS (fun k => iter (step k) k (0 : Int)) (R 0) := by
  refine loop_ev (fun a : Int => ∃ j : Nat, a = (j : Int) ∧ j ≤ n) (fun a => n - a.toNat) (fun a => R a.toNat) ?_ 0 ⟨0, rfl, Nat.zero_le _⟩
  rintro a ⟨j, rfl, hj⟩
  simp only [Int.toNat_natCast]
  rcases Nat.lt_or_ge j n with h | h
  · rcases hstep j h with h1 | ⟨h2, h3⟩
    · exact .inl h1
    · exact .inr ⟨((j + 1 : Nat) : Int), ⟨j + 1, rfl, h⟩, by simp only [Int.toNat_natCast]; omega, by simpa only [Int.toNat_natCast] using h2, h3⟩
  · obtain rfl : j = n := by omega
    exact .inl hend
/-- A loop, by what stays true. -/
theorem loop_inv {α β : Type} {step : Nat → (α → Option β) → α → Option β} (Inv : α → Prop) (μ : α → Nat) (Q : β → Prop)
    (h : ∀ a, Inv a → (∃ r, Q r ∧ EvS (fun k self => step k self a) (fun _ => some r)) ∨ ∃ a', Inv a' ∧ μ a' < μ a ∧ EvS (fun k self => step k self a) (fun self => self a')) (a : α) (ha : Inv a) :
    ∃ r, Q r ∧ EvS (fun k => iter (step k) k a) (some r) := by
  have main : ∀ n a, μ a = n → Inv a → ∃ r, Q r ∧ ∃ K, ∀ k m, K ≤ k → K ≤ m → iter (step k) m a = some r := by
    intro n
    induction n using Nat.strongRecOn with
    | _ n ih =>
      intro a hn ha
      rcases h a ha with ⟨r, hq, K, hK⟩ | ⟨a', h1, h2, K, hK⟩
      · refine ⟨r, hq, K + 1, fun k m hk hm => ?_⟩
        cases m with
        | zero => omega
        | succ m => exact congrFun (hK k (by omega)) (iter (step k) m)
      · obtain ⟨r, hq, L, hL⟩ := ih (μ a') (by omega) a' rfl h1
        refine ⟨r, hq, max K L + 1, fun k m hk hm => ?_⟩
        cases m with
        | zero => omega
        | succ m =>
          rw [← hL k m (by omega) (by omega)]
          exact congrFun (hK k (by omega)) (iter (step k) m)
  obtain ⟨r, hq, K, hK⟩ := main _ a rfl ha
  exact ⟨r, hq, K, fun k hk => hK k k hk hk⟩
theorem count_inv {σ β : Type} (n : Nat) (J : Nat → σ → Prop) (Q : β → Prop) {step : Nat → (Int × σ → Option β) → Int × σ → Option β}
    (hend : ∀ s, J n s → ∃ r, Q r ∧ EvS (fun k self => step k self ((n : Int), s)) (fun _ => some r))
    (hstep : ∀ i s, i < n → J i s → (∃ r, Q r ∧ EvS (fun k self => step k self ((i : Int), s)) (fun _ => some r)) ∨ ∃ s', J (i + 1) s' ∧ EvS (fun k self => step k self ((i : Int), s)) (fun self => self (((i + 1 : Nat) : Int), s')))
    (s : σ) (h0 : J 0 s) : ∃ r, Q r ∧ EvS (fun k => iter (step k) k ((0 : Int), s)) (some r) := by
  refine loop_inv (fun a => ∃ j : Nat, a.1 = (j : Int) ∧ j ≤ n ∧ J j a.2) (fun a => n - a.1.toNat) Q ?_ (0, s) ⟨0, rfl, Nat.zero_le _, h0⟩
  rintro ⟨a, s⟩ ⟨j, e, hj, hJ⟩
  simp only at e hJ
  subst e
  rcases Nat.lt_or_ge j n with h | h
  · rcases hstep j s h hJ with h1 | ⟨s', h1, h3⟩
    · exact .inl h1
    · exact .inr ⟨(((j + 1 : Nat) : Int), s'), ⟨j + 1, rfl, h, h1⟩, by simp only [Int.toNat_natCast]; omega, h3⟩
  · obtain rfl : j = n := by omega
    exact .inl (hend s hJ)
theorem count_inv0 {β : Type} (n : Nat) (J : Nat → Prop) (Q : β → Prop) {step : Nat → (Int → Option β) → Int → Option β}
    (hend : J n → ∃ r, Q r ∧ EvS (fun k self => step k self (n : Int)) (fun _ => some r))
    (hstep : ∀ i, i < n → J i → (∃ r, Q r ∧ EvS (fun k self => step k self (i : Int)) (fun _ => some r)) ∨ (J (i + 1) ∧ EvS (fun k self => step k self (i : Int)) (fun self => self ((i + 1 : Nat) : Int))))
    (h0 : J 0) : ∃ r, Q r ∧ EvS (fun k => iter (step k) k (0 : Int)) (some r) := by
  refine loop_inv (fun a : Int => ∃ j : Nat, a = (j : Int) ∧ j ≤ n ∧ J j) (fun a => n - a.toNat) Q ?_ 0 ⟨0, rfl, Nat.zero_le _, h0⟩
  rintro a ⟨j, rfl, hj, hJ⟩
  rcases Nat.lt_or_ge j n with h | h
  · rcases hstep j h hJ with h1 | ⟨h1, h3⟩
    · exact .inl h1
    · exact .inr ⟨((j + 1 : Nat) : Int), ⟨j + 1, rfl, h, h1⟩, by simp only [Int.toNat_natCast]; omega, h3⟩
  · obtain rfl : j = n := by omega
    exact .inl (hend hJ)
theorem w64 {x : Int} (h : -9223372036854775808 ≤ x ∧ x ≤ 9223372036854775807) : IntKind.i64.wrap x = x := by rw [IntKind.wrap_i64]; omega
theorem idx_nat {α : Type} (l : List α) (i : Nat) (h : i < l.length) : idx l (i : Int) = some l[i] := by simp [idx, h]
theorem lim_true {n : Nat} (h : n ≤ LIM) : limB n = true := by simp [limB, h]
theorem compact_spec (l : List Int) (hs : l.Pairwise (· ≤ ·)) : (Lib.compact l).Pairwise (· < ·) ∧ ∀ x, x ∈ Lib.compact l ↔ x ∈ l := by
  have key : ∀ m, m ≤ l.length → (Lib.compactUpTo l.toArray m).Pairwise (· < ·) ∧ ∀ x, x ∈ Lib.compactUpTo l.toArray m ↔ ∃ j, ∃ h : j < l.length, j < m ∧ l[j] = x := by
    intro m
    induction m with
    | zero => intro _; refine ⟨by simp [Lib.compactUpTo], fun x => by simp [Lib.compactUpTo]⟩
    | succ m ih =>
      intro hm
      obtain ⟨h1, h2⟩ := ih (by omega)
      have hget : l.toArray[m]! = l[m] := by simp [show m < l.length by omega]
      rw [Lib.compactUpTo_succ, hget]
      by_cases hk : Lib.keeps l.toArray m = true
      · rw [if_pos hk]
        have hgt : ∀ j (h : j < l.length), j < m → l[j] < l[m] := by
          intro j h hj
          have h3 : l[m] ≠ l[m - 1] := by
            intro e
            have : Lib.keeps l.toArray m = false := Lib.keeps_neg (by omega) (by simp [show m < l.length by omega, show m - 1 < l.length by omega, e])
            rw [this] at hk; cases hk
          have h4 : l[m - 1] ≤ l[m] := List.pairwise_iff_getElem.1 hs (m - 1) m (by omega) (by omega) (by omega)
          have h5 : l[j] ≤ l[m - 1] := by
            rcases Nat.lt_or_ge j (m - 1) with h6 | h6
            · exact List.pairwise_iff_getElem.1 hs j (m - 1) h (by omega) h6
            · have : j = m - 1 := by omega
              subst this; exact Int.le_refl _
          omega
        refine ⟨List.pairwise_append.2 ⟨h1, List.pairwise_singleton _ _, fun a ha b hb => ?_⟩, fun x => ?_⟩
        · obtain ⟨j, h, hj, rfl⟩ := (h2 a).1 ha
          rw [List.mem_singleton] at hb
          subst hb
          exact hgt j h hj
        · rw [List.mem_append, h2, List.mem_singleton]
          constructor
          · rintro (⟨j, h, hj, rfl⟩ | rfl)
            · exact ⟨j, h, by omega, rfl⟩
            · exact ⟨m, by omega, by omega, rfl⟩
          · rintro ⟨j, h, hj, rfl⟩
            rcases Nat.lt_or_ge j m with h6 | h6
            · exact .inl ⟨j, h, h6, rfl⟩
            · have : j = m := by omega
              subst this; exact .inr rfl
      · rw [if_neg hk, List.append_nil]
        refine ⟨h1, fun x => ?_⟩
        rw [h2]
        have h0 : 0 < m := by
          rcases Nat.eq_zero_or_pos m with h | h
          · subst h; exact absurd (Lib.keeps_lt_one l.toArray 0 (by omega)) hk
          · exact h
        have he : l[m] = l[m - 1] := Classical.byContradiction fun h => hk (Lib.keeps_pos (by simpa [show m < l.length by omega, show m - 1 < l.length by omega] using h))
        constructor
        · rintro ⟨j, h, hj, rfl⟩; exact ⟨j, h, by omega, rfl⟩
        · rintro ⟨j, h, hj, rfl⟩
          rcases Nat.lt_or_ge j m with h6 | h6
          · exact ⟨j, h, h6, rfl⟩
          · have : j = m := by omega
            subst this; exact ⟨j - 1, by omega, by omega, he.symm⟩
  obtain ⟨h1, h2⟩ := key l.length (Nat.le_refl _)
  refine ⟨h1, fun x => (h2 x).trans ⟨fun ⟨j, h, _, e⟩ => e ▸ List.getElem_mem h, fun h => ?_⟩⟩
  obtain ⟨j, hj, e⟩ := List.getElem_of_mem h
  exact ⟨j, hj, hj, e⟩
/-- Two lists that rise and have the same members. -/
theorem rise_unique : ∀ (a b : List Int), a.Pairwise (· < ·) → b.Pairwise (· < ·) → (∀ x, x ∈ a ↔ x ∈ b) → a = b
  | [], [], _, _, _ => rfl
  | [], y :: b, _, _, h => absurd ((h y).2 (List.mem_cons_self ..)) (by simp)
  | x :: a, [], _, _, h => absurd ((h x).1 (List.mem_cons_self ..)) (by simp)
  | x :: a, y :: b, ha, hb, h => by
    rw [List.pairwise_cons] at ha hb
    have hxy : x = y := by
      have h1 := (h x).1 (List.mem_cons_self ..)
      have h2 := (h y).2 (List.mem_cons_self ..)
      rcases List.mem_cons.1 h1 with e | e
      · exact e
      · rcases List.mem_cons.1 h2 with e' | e'
        · exact e'.symm
        · have := hb.1 x e; have := ha.1 y e'; omega
    subst hxy
    rw [rise_unique a b ha.2 hb.2 fun z => ⟨fun hz => ?_, fun hz => ?_⟩]
    · rcases List.mem_cons.1 ((h z).1 (List.mem_cons_of_mem _ hz)) with e | e
      · subst e; have := ha.1 z hz; omega
      · exact e
    · rcases List.mem_cons.1 ((h z).2 (List.mem_cons_of_mem _ hz)) with e | e
      · subst e; have := hb.1 z hz; omega
      · exact e
/-- Sorted and compact. -/
theorem sorted_spec (l : List Int) : (Lib.compact (isort l)).Pairwise (· < ·) ∧ ∀ x, x ∈ Lib.compact (isort l) ↔ x ∈ l := by
  obtain ⟨h1, h2⟩ := compact_spec _ (isort_sorted l)
  exact ⟨h1, fun x => (h2 x).trans (isort_perm l).mem_iff⟩
end Go.Proofs.Ytbgefphoochgcaa.FE
