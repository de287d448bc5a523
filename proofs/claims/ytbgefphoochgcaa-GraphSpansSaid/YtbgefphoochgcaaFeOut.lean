/- FE, part 39: functions: the way out; a function does what the evaluator finds. -/
import Derived.Test.YtbgefphoochgcaaFeFn
namespace Go.Proofs.Ytbgefphoochgcaa.FE
open Go
set_option linter.unusedVariables false
set_option linter.unusedSimpArgs false
section
variable {Ω : Type} {C : CloRep Ω} {P : Program} {T : Tab} {N : Nat} {Φ : Env Ω}
variable {ρ ρ' : Nat → Option Own} {a : Act} {w : World} {G : Ghost}

/-- Who owns behind the call what was handed to the way out: n results, then what comes back (oo: which parameter it is). -/
def ren (n : Nat) (oo : Nat → Nat) : Own → Own
  | .at_ (.tmp k) => if k < n then .at_ (.comp 0 k) else .at_ (.tmp (oo k))
  | .at_ (.box id j) => if id.2.2 < n then .at_ (.box (0, 1, id.2.2) j) else .at_ (.box (0, 0, oo id.2.2) j)
  | .bx id => if id.2.2 < n then .bx (0, 1, id.2.2) else .bx (0, 0, oo id.2.2)
  | o => o
section
variable {n : Nat} {oo : Nat → Nat} (hρ : ∀ b o, ρ b = some o → ρ' b = some (ren n oo o)) (hf : ∀ b, ¬ Ow ρ b → ¬ Ow ρ' b)
include hρ hf
theorem res_out : ∀ {rs : List RS} {k : Nat} {ds : List DL} {vs : List Value}, k + rs.length ≤ n → ParsRep ρ w k (rs.map resQ) ds vs → ResList ρ' w k rs ds vs
  | [], k, ds, vs, hk, h => h
  | r :: rs, k, ds, vs, hk, ⟨d1, d2, v, vs', e1, e2, h1, h2⟩ => by
    rw [List.length_cons] at hk
    refine ⟨d1, d2, v, vs', e1, e2, ?_, res_out (by omega) h2⟩
    have hlt : k < n := by omega
    cases r with
    | v s =>
      have own : ∀ {d}, LSRep ρ w (.at_ (.tmp k)) s d v → LSRep ρ' w (.at_ (.comp 0 k)) s d v := fun h =>
        h.tr (fun b hb => by rw [hρ b _ hb]; simp only [ren, hlt, if_true]) hf
      cases s with
      | dat t => obtain ⟨x, e, h⟩ := h1; exact ⟨x, e, h.mono fun b _ h => ⟨rfl, hf b h⟩⟩
      | arr e' => obtain ⟨d, e, h⟩ := h1; exact ⟨d, e, own h⟩
      | omp k' u => obtain ⟨d, e, h⟩ := h1; exact ⟨d, e, own h⟩
    | bx ls =>
      have h1' : BoxRep ρ w (0, 0, k) ls d1 v := h1
      exact BoxRep.tr h1' (fun b hb => by rw [hρ b _ hb]; simp only [ren, hlt, if_true]) (fun j _ b hb => by rw [hρ b _ hb]; simp only [ren, hlt, if_true]) hf
theorem outs_out : ∀ {qs : List PS} {p k : Nat} {ds : List DL} {vs us : List Value}, n ≤ k → allB parB qs = true → (∀ (j : Nat) (q : Nat × PS), (outQ p qs)[j]? = some q → oo (k + j) = q.1) → ParsRep ρ w k ((outQ p qs).map (·.2)) ds vs →
    us.length = qs.length → (∀ (j : Nat) (q : Nat × PS) (v : Value), (outQ p qs)[j]? = some q → vs[j]? = some v → us[q.1 - p]? = some v) → OutsRep ρ' w p qs ds us
  | [], p, k, ds, vs, us, hk, hb, ho, h, hl, hu => ⟨h.1, List.length_eq_zero_iff.1 hl⟩
  | q :: qs, p, k, ds, vs, [], hk, hb, ho, h, hl, hu => by cases hl
  | q :: qs, p, k, ds, vs, u :: us, hk, hb, ho, h, hl, hu => by
    have hb2 : parB q = true ∧ allB parB qs = true := by
      simp only [allB] at hb
      split at hb
      · rename_i e; exact ⟨e, hb⟩
      · cases hb
    have hge : ∀ {qs : List PS} {p j : Nat} {q : Nat × PS}, (outQ p qs)[j]? = some q → p ≤ q.1 := by
      intro qs
      induction qs with
      | nil => intro p j q h; simp [outQ] at h
      | cons x qs ih =>
        intro p j q h
        cases x with
        | mu s => cases j with
          | zero => cases h; exact Nat.le_refl _
          | succ j => have := ih (p := p + 1) (j := j) (q := q) (by simpa [outQ] using h); omega
        | bx ls => cases j with
          | zero => cases h; exact Nat.le_refl _
          | succ j => have := ih (p := p + 1) (j := j) (q := q) (by simpa [outQ] using h); omega
        | v s => have := ih (p := p + 1) (j := j) (q := q) h; omega
        | ep s => have := ih (p := p + 1) (j := j) (q := q) h; omega
        | fn => have := ih (p := p + 1) (j := j) (q := q) h; omega
    have skip : outQ p (q :: qs) = outQ (p + 1) qs → OutRep ρ' w p q [] u → OutsRep ρ' w p (q :: qs) ds (u :: us) := by
      intro e1 e2
      rw [e1] at ho h hu
      refine ⟨[], ds, u, us, rfl, rfl, e2, outs_out hk hb2.2 ho h (by simpa using hl) fun j q' v k1 k2 => ?_⟩
      have := hu j q' v k1 k2
      have h2 := hge k1
      rw [show q'.1 - p = (q'.1 - (p + 1)) + 1 by omega] at this
      simpa using this
    have take : ∀ {q' : PS}, outQ p (q :: qs) = (p, q') :: outQ (p + 1) qs → (∀ d1 v, ParRep ρ w k q' d1 v → oo k = p → OutRep ρ' w p q d1 v) → OutsRep ρ' w p (q :: qs) ds (u :: us) := by
      intro q' e1 e2
      rw [e1] at ho h hu
      obtain ⟨d1, d2, v, vs', rfl, rfl, h1, h2⟩ := h
      have hv : u = v := by
        have := hu 0 (p, q') v rfl rfl
        simpa using this
      subst hv
      refine ⟨d1, d2, u, us, rfl, rfl, e2 _ _ h1 (by simpa using ho 0 _ rfl), outs_out (k := k + 1) (by omega) hb2.2 (fun j q' e => ?_) h2 (by simpa using hl) fun j q' v k1 k2 => ?_⟩
      · have := ho (j + 1) q' (by simpa using e)
        rwa [show k + (j + 1) = k + 1 + j by omega] at this
      · have := hu (j + 1) q' v (by simpa using k1) (by simpa using k2)
        have h2 := hge k1
        rw [show q'.1 - p = (q'.1 - (p + 1)) + 1 by omega] at this
        simpa using this
    have hn : ¬ k < n := by omega
    cases q with
    | v s => exact skip rfl rfl
    | ep t => exact skip rfl rfl
    | fn => exact skip rfl rfl
    | mu s =>
      refine take rfl fun d1 v h1 e => ?_
      obtain ⟨d, e1, h⟩ := h1
      refine ⟨d, e1, h.tr (fun b hb => ?_) hf⟩
      rw [hρ b _ hb]
      simp only [ren, hn, if_false, e]
    | bx ls =>
      refine take rfl fun d1 v h1 e => ?_
      have h1' : BoxRep ρ w (0, 0, k) ls d1 v := h1
      exact BoxRep.tr h1' (fun b hb => by rw [hρ b _ hb]; simp only [ren, hn, if_false, e]) (fun j _ b hb => by rw [hρ b _ hb]; simp only [ren, hn, if_false, e]) hf
end
/-- The value that a source stands for. -/
def SrcVal (P : Program) (a : Act) (w : World) : Src → Value → Prop
  | .op o, v => a.eval o = v
  | .cell t ty, v => ∃ ad, a.tmps.getD t undef = .pointer (some ad) ∧ (loadVar ty ad).run P w = .ok v w
theorem srcG_runs (hT : TabOk P T) {used : Id → Prop} {st : S Ω} {rs : List Loc} (hr : Rep C G N used st a w) {s : Src} {f : Operand → AV Ω → Prg Ω} {acc : List Loc} {ws : List (Loc × AV Ω)} (h : (srcG T s f).Runs st acc rs ws) :
    ∃ o v acc' x, (f o v).Runs st acc' rs ws ∧ RepAV C G w (opLoc o) v x ∧ (∀ t, o = .tmp t → v = st.get (.tmp t)) ∧ SrcVal P a w s x := by
  cases s with
  | op o =>
    obtain ⟨v, acc', h, hv, hs⟩ := runs_opG hr h
    exact ⟨o, v, acc', _, h, hv, hs, rfl⟩
  | cell t ty =>
    obtain ⟨ti, hti, h⟩ := runs_opt h
    have h' : Prg.Runs st (match st.get (.tmp t) with
      | .one (.ref b off _) => getN b off ti.size fun ls => (match loadB ti ls with | true => f (.const (.bool true)) (avOf (isSt ti.kind) ls) | false => .fail)
      | _ => .fail) (.tmp t :: acc) rs ws := h
    split at h'
    · rename_i b off n hg
      have h1 := hr.at_ (.tmp t)
      rw [hg] at h1
      obtain ⟨bl, hb, e⟩ := h1
      obtain ⟨ls, acc2, l, h', hlen, hx, hc⟩ := getN_runs hr hb _ _ h'
      split at h'
      · rename_i hlb
        simp only [loadB, Bool.and_eq_true, Bool.or_eq_true] at hlb
        have hl2 := hx.length
        have h1 := Nat.eq_of_beq_eq_true hlb.1
        obtain ⟨u, hu, hag⟩ := run_loadVar hT hti (b := bl) (off := off) (l := l) (by omega) hc (fun h => by
          rcases hlb.2 with h2 | h2
          · rw [h] at h2; cases h2
          · have := Nat.eq_of_beq_eq_true h2; omega)
        exact ⟨_, _, acc2, u, h', avOf_rep hx hag, fun t' e' => (by cases e'), _, e, hu⟩
      · exact h'.elim
    · exact h'.elim
theorem argsS_runs (hT : TabOk P T) {rc i : Nat} {used : Id → Prop} {rs : List Loc} {sc : Bool} (hf : FreshAt used rc i) : ∀ (qs : List PS) (os : List Src) (p : Nat) {G : Ghost} {st : S Ω} {f : List Pln → Prg Ω} {acc : List Loc} {ws : List (Loc × AV Ω)}, Rep C G N (usedA used rc i p) st a w → (argsS T sc rc i p qs os f).Runs st acc rs ws →
    ∃ xs ws' ws2 acc' G1 vs, ws = ws2 ++ ws' ∧ (f xs).Runs (ws' ++ st) acc' rs ws2 ∧ Moves G w G1 ∧ Rep C G1 N (usedA used rc i (p + qs.length)) (ws' ++ st) a w ∧ PlnsOk sc G1 w qs xs vs ∧ All2 (SrcVal P a w) os vs
  | [], [], p, G, st, f, acc, ws, hr, h => ⟨[], [], ws, acc, G, [], by simp, h, Step.refl' hr _, hr, trivial, .nil⟩
  | [], _ :: _, p, G, st, f, acc, ws, hr, h => h.elim
  | _ :: _, [], p, G, st, f, acc, ws, hr, h => h.elim
  | q :: qs, o :: os, p, G, st, f, acc, ws, hr, h => by
    have h' : Prg.Runs st (srcG T o fun x v => argP sc rc i p q x v fun x => argsS T sc rc i (p + 1) qs os fun xs => f (x :: xs)) acc rs ws := h
    obtain ⟨x0, v, acc1, u, h', hv, hs, hu⟩ := srcG_runs hT hr h'
    obtain ⟨x, ws', ws2, acc2, G1, rfl, h', hm, hr1, hx⟩ := argP_runs hr hv hs (usedA_new hf (by omega)) (usedA_new hf (by omega)) (used' := usedA used rc i (p + 1)) (by
      rintro id (h | ⟨s, h1, h2, e⟩)
      · exact .inl h
      · exact .inr ⟨s, h1, by omega, e⟩) (.inr ⟨_, by omega, by omega, rfl⟩) (.inr ⟨_, by omega, by omega, rfl⟩) h'
    obtain ⟨xs, ws3, ws4, acc3, G2, vs, rfl, h', hm2, hr2, hxs, hvs⟩ := argsS_runs hT hf qs os (p + 1) hr1 h'
    refine ⟨x :: xs, ws3 ++ ws', ws4, acc3, G2, u :: vs, by simp, by rw [List.append_assoc]; exact h', hm.moves hm2, ?_, ⟨hx.moves hm2, hxs⟩, .cons hu hvs⟩
    rw [List.append_assoc, List.length_cons, show p + (qs.length + 1) = p + 1 + qs.length by omega]
    exact hr2
theorem src_split {α β : Type} {R : α → β → Prop} : ∀ {A B : List α} {vs : List β}, All2 R (A ++ B) vs → ∃ v1 v2, vs = v1 ++ v2 ∧ All2 R A v1 ∧ All2 R B v2
  | [], B, vs, h => ⟨[], vs, rfl, .nil, h⟩
  | x :: A, B, _, .cons h t => by
    obtain ⟨v1, v2, rfl, h1, h2⟩ := src_split t
    exact ⟨_ :: v1, v2, rfl, .cons h h1, h2⟩
theorem results_src {fn : Func} {a : Act} {w : World} {vs : List Value} (h : All2 (SrcVal P a w) (fn.results.toList.map resS) vs) :
    (results fn a.tmps).run P w = .ok (if h : vs.toArray.size = 1 then vs.toArray[0] else .tuple vs.toArray) w := by
  unfold results
  have key : ∀ f : ResultVar → Sem Value, (∀ r v, SrcVal P a w (resS r) v → (f r).run P w = .ok v w) → (fn.results.mapM f).run P w = .ok vs.toArray w := by
    intro f hf
    rw [Array.mapM_eq_mapM_toList]
    generalize fn.results.toList = l at h
    have : ∀ (l : List ResultVar) (vs : List Value), All2 (SrcVal P a w) (l.map resS) vs → (l.mapM f).run P w = .ok vs w := by
      intro l
      induction l with
      | nil => intro vs h; cases h; rfl
      | cons r l ih =>
        intro vs h
        cases h with
        | cons h1 h2 =>
          have e1 := hf r _ h1
          have e2 := ih _ h2
          rw [List.mapM_cons]
          simp [e1, e2]
    simp [this l vs h]
  simp only [Sem.run_bind]
  rw [key _ (fun r v hv => by
    cases r with
    | tmp t =>
      have hv' : a.tmps.getD t undef = v := hv
      simp [hv']
    | cell b t =>
      obtain ⟨ad, e1, e2⟩ := hv
      simp [e1, asAddr, e2])]
  rfl
theorem outQ_lt : ∀ {qs : List PS} {p j : Nat} {q : Nat × PS}, (outQ p qs)[j]? = some q → p ≤ q.1 ∧ q.1 < p + qs.length := by
  intro qs
  induction qs with
  | nil => intro p j q h; simp [outQ] at h
  | cons x qs ih =>
    intro p j q h
    rw [List.length_cons]
    have go : ∀ {j}, (outQ (p + 1) qs)[j]? = some q → p ≤ q.1 ∧ q.1 < p + (qs.length + 1) := fun h => by
      have := ih h; omega
    cases x with
    | mu s => cases j with
      | zero => cases h; simp only; omega
      | succ j => exact go (j := j) (by simpa [outQ] using h)
    | bx ls => cases j with
      | zero => cases h; simp only; omega
      | succ j => exact go (j := j) (by simpa [outQ] using h)
    | v s => exact go h
    | ep s => exact go h
    | fn => exact go h
theorem resAll_of : ∀ {rs : List RS} {ds : List DL} {vs : Array Value}, vs.size = rs.length → ResList ρ w 0 rs ds vs.toList → ResAll ρ w rs ds (if h : vs.size = 1 then vs[0] else .tuple vs)
  | [], ds, vs, hl, h => h.1
  | [r], ds, vs, hl, h => by
    obtain ⟨c1, c2, v, vs', e3, e4, h5, h6⟩ := h
    obtain ⟨rfl, rfl⟩ := h6
    rw [e3, List.append_nil]
    have : vs = #[v] := Array.toList_inj.1 e4
    subst this
    exact h5
  | r :: r' :: rs, ds, vs, hl, h => by
    have : vs.size ≠ 1 := by rw [hl]; simp
    rw [dif_neg this]
    exact ⟨vs, rfl, h⟩
/-- The results, and what comes back. -/
theorem res_ok (hT : TabOk P T) {rc : Nat} {st : S Ω} {sg : Sig} {fn : Func} {y : El (outTy sg.outs)} {args : Array Value} (hr : Rep C G N (usedB rc) st a w) (h : resAll T sg fn.results.toList rc st = some y) (hb : allB parB sg.pars = true) (hlen : args.size = sg.pars.length)
    (hk : ∀ (j : Nat) (q : Nat × PS) (v : Value), (outQ 0 sg.pars)[j]? = some q → args.toList[q.1]? = some v → a.tmps.getD q.1 undef = v) :
    ∃ v ρ' d1 d2, (results fn a.tmps).run P w = .ok v w ∧ Fr G.ρ w ρ' w ∧ (∀ b, Ow ρ' b → b < w.heap.size) ∧ unOut sg.outs y = d1 ++ d2 ∧ ResAll ρ' w sg.res d1 v ∧ OutsRep ρ' w 0 sg.pars d2 args.toList ∧ ∀ b, G.ρ b = some .om → ρ' b = some .ext := by
  simp only [resAll] at h
  split at h
  · cases h
  rename_i hl
  have hl : fn.results.toList.length = sg.res.length := Nat.eq_of_beq_eq_true hl
  obtain ⟨rs, ws, h1, h2⟩ := Prg.runs_of_run h
  have hfr : FreshAt (usedB rc) rc 0 := freshB 0
  obtain ⟨xs, ws', ws2, acc', G1, vs, rfl, h1, hm, hr1, hx, hsv⟩ := argsS_runs hT hfr _ _ 0 (hr.mono fun _ h => .inl h) h1
  rcases (runs_ite h1).symm with ⟨_, h3⟩ | ⟨hdl, h3⟩
  · exact h3.elim
  obtain ⟨ds, acc2, h3, hp⟩ := readPs_runs (i := 0) hr1 _ xs _ 0 hx h3
  obtain ⟨y', hy', h4⟩ := runs_opt h3
  obtain ⟨rfl, -⟩ := h4
  have hyy : y' = y := by
    have h2' : cast? (outTy sg.outs) (outTy sg.outs) y' = some y := h2
    rw [cast_self] at h2'
    exact Option.some.inj h2'
  subst hyy
  have hun := mkOut_un hy'
  have hfe : ∀ b, ¬ Ow G1.ρ b → ¬ Ow (fun b => (G1.ρ b).map (trOwn rc 0 0 xs)) b := by
    intro b h h'
    refine h fun e => h' ?_
    show (G1.ρ b).map _ = none
    rw [e]; rfl
  have hpar := pars_in hfe hp hdl (fun l _ b hb => by show (G1.ρ b).map _ = _; rw [hb]; rfl) (fun l _ b hb => by show (G1.ρ b).map _ = _; rw [hb]; rfl)
  obtain ⟨d1, d2, v1, v2, e1, e2, k1, k2⟩ := pars_split hpar
  rw [List.length_map, Nat.zero_add] at k2
  let oo : Nat → Nat := fun k => match (outQ 0 sg.pars)[k - sg.res.length]? with | some q => q.1 | none => 0
  have hf2 : ∀ b, ¬ Ow (fun b => (G1.ρ b).map (trOwn rc 0 0 xs)) b → ¬ Ow (fun b => ((G1.ρ b).map (trOwn rc 0 0 xs)).map (ren sg.res.length oo)) b := by
    intro b h h'
    refine h fun e => h' ?_
    show ((G1.ρ b).map (trOwn rc 0 0 xs)).map _ = none
    have e' : (G1.ρ b).map (trOwn rc 0 0 xs) = none := e
    rw [e']; rfl
  have hρ2 : ∀ b o, (fun b => (G1.ρ b).map (trOwn rc 0 0 xs)) b = some o → (fun b => ((G1.ρ b).map (trOwn rc 0 0 xs)).map (ren sg.res.length oo)) b = some (ren sg.res.length oo o) := by
    intro b o e
    have e' : (G1.ρ b).map (trOwn rc 0 0 xs) = some o := e
    show ((G1.ρ b).map (trOwn rc 0 0 xs)).map _ = _
    rw [e']; rfl
  have hv1 : v1.length = sg.res.length := by rw [pars_len k1, List.length_map]
  obtain ⟨s1, s2, e5, s3, s4⟩ := src_split hsv
  have hs1 : s1.length = sg.res.length := by rw [← s3.length, List.length_map, hl]
  obtain ⟨rfl, rfl⟩ := List.append_inj (e5.symm.trans e2) (by rw [hs1, hv1])
  have hres := results_src s3
  have hR := res_out hρ2 hf2 (rs := sg.res) (k := 0) (by omega) k1
  have hO := outs_out hρ2 hf2 (qs := sg.pars) (p := 0) (k := sg.res.length) (us := args.toList) (Nat.le_refl _) hb (fun j q e => by
    show (match (outQ 0 sg.pars)[sg.res.length + j - sg.res.length]? with | some q => q.1 | none => 0) = q.1
    rw [Nat.add_sub_cancel_left, e]) k2 (by simpa using hlen) (fun j q v e3 e4 => by
      have e4 : a.tmps.getD q.1 undef = v := by
        obtain ⟨u, h5, h6⟩ := s4.get (i := j) (a := Src.op (.tmp q.1)) (by rw [List.getElem?_map, e3]; rfl)
        rw [h5] at e4
        cases e4
        exact h6
      have hq := outQ_lt e3
      have hq' : q.1 < args.toList.length := by simp; omega
      have := hk j q args.toList[q.1] e3 (List.getElem?_eq_getElem hq')
      rw [Nat.sub_zero, List.getElem?_eq_getElem hq', ← this, e4])
  refine ⟨_, _, d1, d2, hres, ?_, ?_, by rw [hun, e1], ?_, hO, fun b hb => ?_⟩
  · have hmf := hm.fr
    refine ⟨rfl, rfl, rfl, Nat.le_refl _, fun b hb hn => ⟨rfl, hf2 b (hfe b (hmf.free b hb hn).2)⟩, fun b hb => ⟨rfl, ?_⟩⟩
    have := (hmf.ext b hb).2
    show ((G1.ρ b).map (trOwn rc 0 0 xs)).map (ren sg.res.length oo) = some .ext
    rw [this, Option.map_some, trOwn_rest ⟨fun _ => by simp, fun _ => by simp⟩]
    rfl
  · intro b hb
    refine hr1.lt b fun e => hb ?_
    show ((G1.ρ b).map (trOwn rc 0 0 xs)).map _ = none
    rw [e]; rfl
  · exact resAll_of (by simpa using hv1) hR
  · have := (hm.om b hb (by simp)).2
    show ((G1.ρ b).map (trOwn rc 0 0 xs)).map (ren sg.res.length oo) = some .ext
    rw [this, Option.map_some, trOwn_rest ⟨fun _ => by simp, fun _ => by simp⟩]
    rfl
/-- A closure that stands for none. -/
def noClo : CloRep Unit := ⟨.func (.func 0) #[] #[], ⟨_, _, _, rfl⟩, fun _ _ _ _ => True, fun _ _ _ _ _ => trivial⟩
def fnB (sg : Sig) (fn : Func) : Bool :=
  match fn.body with
  | none => false
  | some c => and (codeB fn.ntmps ((outQ 0 sg.pars).map (·.1)) c) (and (allB parB sg.pars) (and (allB noFn sg.pars) (and (Nat.ble sg.pars.length fn.ntmps) (!(fn.name == "runtime.NumGoroutine")))))
theorem ParsRep.len {ds : List DL} {vs : List Value} {qs : List PS} {p : Nat} (h : ParsRep ρ w p qs ds vs) : vs.length = qs.length := pars_len h
/-- A function does in memory what the evaluator finds. -/
theorem fn_sound (hm : P.follows .mixedOrders = true) (hT : TabOk P T) {Φ : Env Unit} (hΦ : EnvOk P noClo Φ) {H : Hints} {fuel : Nat} {f : Nat} {fn : Func} {sg : Sig} (hf : P.funcs[f]? = some fn) (hB : fnB sg fn = true) : Sound P f ⟨sg, evFn T Φ H fuel sg fn⟩ := by
  unfold fnB at hB
  split at hB
  · cases hB
  rename_i c hc
  simp only [Bool.and_eq_true] at hB
  obtain ⟨hB1, hB2, hB5, hB3, hB4⟩ := hB
  have hB3 : sg.pars.length ≤ fn.ntmps := Nat.le_of_ble_eq_true hB3
  constructor
  · intro args w
    have h1 : fn.name ≠ "runtime.NumGoroutine" := by simpa using hB4
    simp [callFunc, hf, h1, hc, mark]
  · intro ρ w args x y hy hlt hpars
    have hlen : args.size = sg.pars.length := by simpa using hpars.len
    let a0 : Act := { tmps := args ++ Array.replicate (fn.ntmps - args.size) undef, defers := [] }
    have hget : ∀ (k : Nat) v, args.toList[k]? = some v → a0.tmps.getD k undef = v := by
      intro k v h
      have hk : k < args.size := by
        rcases Nat.lt_or_ge k args.size with h' | h'
        · exact h'
        · rw [List.getElem?_eq_none (by simpa using h')] at h; cases h
      have h' : args[k] = v := by simpa [hk] using h
      show (args ++ Array.replicate (fn.ntmps - args.size) undef).getD k undef = v
      rw [Array.getD_eq_getD_getElem?, Array.getElem?_append_left hk, Array.getElem?_eq_getElem hk, h']
      rfl
    have hsz : a0.tmps.size = fn.ntmps := by
      show (args ++ Array.replicate (fn.ntmps - args.size) undef).size = _
      simp; omega
    obtain ⟨G0, eG, hr0⟩ := start_ok (C := noClo) hlt hsz rfl hB2 (FnAt.none hB5) hpars hget
    have hy' : evFn T Φ H fuel sg fn x = some y := hy
    unfold evFn at hy'
    rw [hc] at hy'
    refine calls_of_wp hf hc (wp_mono (ev_ok hm hT hΦ c hB1 hy' hr0) fun e a' w' hq => ?_)
    have fin : ∀ {rc' : Nat} {st' : S Unit} {G' : Ghost}, Fr G0.ρ w G'.ρ w' → Rep noClo G' fn.ntmps (usedB rc') st' a' w' → Keep ((outQ 0 sg.pars).map (·.1)) a0 a' → resAll T sg fn.results.toList rc' st' = some y →
        bodyPost P fn (fun e w' => ∃ v ρ', e = .returned v ∧ Fr ρ w ρ' w' ∧ (∀ b, Ow ρ' b → b < w'.heap.size) ∧ ∃ d1 d2, unOut sg.outs y = d1 ++ d2 ∧ ResAll ρ' w' sg.res d1 v ∧ OutsRep ρ' w' 0 sg.pars d2 args.toList) .ret a' w' := by
      intro rc' st' G' q1 q2 q3 q4
      obtain ⟨v, ρ', d1, d2, r1, r2, r3, r4, r5, r6, -⟩ := res_ok (P := P) (args := args) hT q2 q4 hB2 hlen (fun j q v e1 e2 => by
        rw [q3 q.1 (List.mem_map.2 ⟨q, List.mem_of_getElem? e1, rfl⟩)]
        exact hget q.1 v e2)
      exact ⟨q2.defers, v, r1, v, ρ', rfl, by rw [← eG]; exact q1.trans r2, r3, d1, d2, r4, r5, r6⟩
    cases e with
    | normal =>
      obtain ⟨rc', st', G', q1, q2, q3, q4, q5, q6⟩ := hq
      exact fin q3 q4 q5 q6
    | ret =>
      obtain ⟨rc', st', G', q2, q3, q4, q5, y', q6, q7⟩ := hq
      cases q7
      exact fin q3 q4 q5 q6
    | exit i =>
      obtain ⟨rc', st', G', q1, q2, q3, q4, q5, q6⟩ := hq
      cases q6
    | _ => exact hq.elim
/-- Behind a function that takes a closure: the closure's memory is still the closure's. -/
def ρho (ρ ρ' : Nat → Option Own) : Nat → Option Own := fun b => match ρ b with | some .om => some .om | _ => ρ' b
theorem ρho_om {b : Nat} (h : ρ b = some .om) : ρho ρ ρ' b = some .om := by unfold ρho; rw [h]
theorem ρho_ne {b : Nat} (h : ρ b ≠ some .om) : ρho ρ ρ' b = ρ' b := by
  unfold ρho
  split
  · rename_i e; exact absurd e h
  · rfl
def fnBH (sg : Sig) (fn : Func) : Bool :=
  match fn.body with
  | none => false
  | some c => and (codeB fn.ntmps ((outQ 0 sg.pars).map (·.1)) c) (and (allB parB sg.pars) (and (Nat.ble sg.pars.length fn.ntmps) (!(fn.name == "runtime.NumGoroutine"))))
/-- A function that takes a closure does in memory what the evaluator finds, whatever the closure. -/
theorem hof_sound (hm : P.follows .mixedOrders = true) (hT : TabOk P T) {Φ : (Ω : Type) → (as : List Ty) → (b : Ty) → (Ω → Tup as → Option (El b × Ω)) → Env Ω} {as : List Ty} {bt : Ty}
    (hΦ : ∀ (Ω : Type) (C : CloRep Ω) (g : Ω → Tup as → Option (El bt × Ω)), CloOk P C as bt g → EnvOk P C (Φ Ω as bt g)) {H : Hints} {fuel : Nat} {f : Nat} {fn : Func} {sg : Sig} (hf : P.funcs[f]? = some fn) (hB : fnBH sg fn = true) :
    SoundH P f ⟨sg, as, bt, fun Ω g s x => evFnH T (Φ Ω as bt g) H fuel sg fn s x⟩ := by
  unfold fnBH at hB
  split at hB
  · cases hB
  rename_i c hc
  simp only [Bool.and_eq_true] at hB
  obtain ⟨hB1, hB2, hB3, hB4⟩ := hB
  have hB3 : sg.pars.length ≤ fn.ntmps := Nat.le_of_ble_eq_true hB3
  constructor
  · intro args w
    have h1 : fn.name ≠ "runtime.NumGoroutine" := by simpa using hB4
    simp [callFunc, hf, h1, hc, mark]
  · intro Ω C g hg ρ w args s x y hy hlt hpars hfn hK
    have hlen : args.size = sg.pars.length := by simpa using hpars.len
    let a0 : Act := { tmps := args ++ Array.replicate (fn.ntmps - args.size) undef, defers := [] }
    have hget : ∀ (k : Nat) v, args.toList[k]? = some v → a0.tmps.getD k undef = v := by
      intro k v h
      have hk : k < args.size := by
        rcases Nat.lt_or_ge k args.size with h' | h'
        · exact h'
        · rw [List.getElem?_eq_none (by simpa using h')] at h; cases h
      have h' : args[k] = v := by simpa [hk] using h
      show (args ++ Array.replicate (fn.ntmps - args.size) undef).getD k undef = v
      rw [Array.getD_eq_getD_getElem?, Array.getElem?_append_left hk, Array.getElem?_eq_getElem hk, h']
      rfl
    have hsz : a0.tmps.size = fn.ntmps := by
      show (args ++ Array.replicate (fn.ntmps - args.size) undef).size = _
      simp; omega
    obtain ⟨G0, eG, hr0⟩ := start_ok (C := C) hlt hsz rfl hB2 hfn hpars hget
    have hr1 : Rep C G0 fn.ntmps (usedB 1) ((.om, .one (.opq s)) :: parS sg.pars (unTup sg.ins x)) a0 w :=
      Rep.putR (l := .om) (u := .one (.opq s)) hr0 (.inr ⟨s, rfl, by unfold Ghost.O; rw [eG]; exact hK⟩)
    have hy' : evFnH T (Φ Ω as bt g) H fuel sg fn s x = some y := hy
    unfold evFnH at hy'
    rw [hc] at hy'
    refine calls_of_wp hf hc (wp_mono (ev_ok hm hT (hΦ Ω C g hg) c hB1 hy' hr1) fun e a' w' hq => ?_)
    have fin : ∀ {rc' : Nat} {st' : S Ω} {G' : Ghost}, Fr G0.ρ w G'.ρ w' → Rep C G' fn.ntmps (usedB rc') st' a' w' → Keep ((outQ 0 sg.pars).map (·.1)) a0 a' → resAllH T sg fn.results.toList rc' st' = some y →
        bodyPost P fn (fun e w' => ∃ v ρ', e = .returned v ∧ Fr ρ w ρ' w' ∧ (∀ b, Ow ρ' b → b < w'.heap.size) ∧ (∃ d1 d2, unOut sg.outs y.1 = d1 ++ d2 ∧ ResAll ρ' w' sg.res d1 v ∧ OutsRep ρ' w' 0 sg.pars d2 args.toList) ∧ C.K y.2 w' (fun b => ρ' b = some .om) (Ow ρ')) .ret a' w' := by
      intro rc' st' G' q1 q2 q3 q4
      simp only [resAllH, Option.bind_eq_some_iff] at q4
      obtain ⟨y1, q4, q5⟩ := q4
      split at q5
      · rename_i s' hs'
        cases q5
        obtain ⟨v, ρ', d1, d2, r1, r2, r3, r4, r5, r6, r7⟩ := res_ok (P := P) (args := args) hT q2 q4 hB2 hlen (fun j q v e1 e2 => by
          rw [q3 q.1 (List.mem_map.2 ⟨q, List.mem_of_getElem? e1, rfl⟩)]
          exact hget q.1 v e2)
        have fwd : ∀ b o, ρ' b = some o → o ≠ .om → o ≠ .ext → ρho G'.ρ ρ' b = some o := by
          intro b o e h1 h2
          by_cases hb : G'.ρ b = some .om
          · rw [r7 b hb] at e; cases e; exact absurd rfl h2
          · rw [ρho_ne hb, e]
        have sub : ∀ b, ¬ Ow ρ' b → ¬ Ow (ρho G'.ρ ρ') b := by
          intro b h h'
          by_cases hb : G'.ρ b = some .om
          · exact h (by unfold Ow; rw [r7 b hb]; simp)
          · unfold Ow at h'
            rw [ρho_ne hb] at h'
            exact h h'
        refine ⟨q2.defers, v, r1, v, ρho G'.ρ ρ', rfl, ?_, fun b hb => r3 b (Classical.byContradiction fun h => sub b h hb), ⟨d1, d2, r4, resAll_tr fwd sub r5, outs_tr fwd sub r6⟩, ?_⟩
        · rw [← eG]
          refine q1.trans ⟨rfl, rfl, rfl, Nat.le_refl _, fun b hb hn => ⟨rfl, sub b (r2.free b hb hn).2⟩, fun b hb => ⟨rfl, ?_⟩⟩
          rw [ρho_ne (by rw [hb]; simp)]
          exact (r2.ext b hb).2
        · exact C.stable (om_get q2 hs') (Nat.le_refl _) (fun _ _ => rfl) (fun b hb hn => ⟨rfl, sub b (r2.free b hb hn).2⟩) (fun b hb => ρho_om hb)
      · cases q5
    cases e with
    | normal =>
      obtain ⟨rc', st', G', q1, q2, q3, q4, q5, q6⟩ := hq
      exact fin q3 q4 q5 q6
    | ret =>
      obtain ⟨rc', st', G', q2, q3, q4, q5, y', q6, q7⟩ := hq
      cases q7
      exact fin q3 q4 q5 q6
    | exit i =>
      obtain ⟨rc', st', G', q1, q2, q3, q4, q5, q6⟩ := hq
      cases q6
    | _ => exact hq.elim
end
end Go.Proofs.Ytbgefphoochgcaa.FE
