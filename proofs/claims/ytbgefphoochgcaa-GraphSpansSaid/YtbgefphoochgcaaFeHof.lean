/- FE, part 27: functions that take a closure: their contract; what may be called. -/
import Derived.Test.YtbgefphoochgcaaFeCall
namespace Go.Proofs.Ytbgefphoochgcaa.FE
open Go
set_option linter.unusedVariables false
set_option linter.unusedSimpArgs false
section
variable {Ω : Type} {P : Program}
/-- Where a closure is handed over, it is the one that came in. -/
def FnAt (C : CloRep Ω) (qs : List PS) (vs : List Value) : Prop := ∀ k : Nat, qs[k]? = some PS.fn → vs[k]? = some C.val
/-- A step in which only the closure's own memory changes. -/
structure FrO (ρ : Nat → Option Own) (w : World) (ρ' : Nat → Option Own) (w' : World) : Prop where
  os : w'.os = w.os
  tape : w'.tape = w.tape
  output : w'.output = w.output
  size : w.heap.size ≤ w'.heap.size
  free : Free w (Ow ρ) w' (Ow ρ')
  keep : ∀ b o, ρ b = some o → o ≠ .om → w'.heap[b]? = w.heap[b]? ∧ ρ' b = some o
/-- A closure does what is told of it, at each state. -/
def CloOk (P : Program) (C : CloRep Ω) (as : List Ty) (b : Ty) (g : Ω → Tup as → Option (El b × Ω)) : Prop :=
  ∀ (ρ : Nat → Option Own) (w : World) (args : Array Value) (s : Ω) (x : Tup as) (y : El b × Ω), g s x = some y → (∀ b, Ow ρ b → b < w.heap.size) → C.K s w (fun b => ρ b = some .om) (Ow ρ) → ParsRep ρ w 0 (as.map fun t => PS.v (.dat t)) (unTup as x) args.toList →
    ∃ f cs, C.val = .func (.func f) #[] cs ∧ (callFunc f (args ++ cs)).run P w = .ok (.enter f (args ++ cs)) w ∧ Calls P f (args ++ cs) w fun e w' => ∃ v ρ', e = .returned v ∧ FrO ρ w ρ' w' ∧ (∀ b, Ow ρ' b → b < w'.heap.size) ∧
      RepV w' (Ow ρ') b y.1 v ∧ C.K y.2 w' (fun b => ρ' b = some .om) (Ow ρ')
/-- A function that takes a closure does what its Lean function says, whatever the closure. -/
structure SoundH (P : Program) (f : Nat) (h : Hof) : Prop where
  enter : ∀ args w, (callFunc f args).run P w = .ok (.enter f args) w
  calls : ∀ (Ω : Type) (C : CloRep Ω) (g : Ω → Tup h.as → Option (El h.b × Ω)), CloOk P C h.as h.b g → ∀ (ρ : Nat → Option Own) w (args : Array Value) s x y, h.f Ω g s x = some y → (∀ b, Ow ρ b → b < w.heap.size) →
    ParsRep ρ w 0 h.sig.pars (unTup _ x) args.toList → FnAt C h.sig.pars args.toList → C.K s w (fun b => ρ b = some .om) (Ow ρ) →
    Calls P f args w fun e w' => ∃ v ρ', e = .returned v ∧ Fr ρ w ρ' w' ∧ (∀ b, Ow ρ' b → b < w'.heap.size) ∧
      (∃ d1 d2, unOut h.sig.outs y.1 = d1 ++ d2 ∧ ResAll ρ' w' h.sig.res d1 v ∧ OutsRep ρ' w' 0 h.sig.pars d2 args.toList) ∧ C.K y.2 w' (fun b => ρ' b = some .om) (Ow ρ')
/-- What may be called does what is told of it. -/
structure EnvOk (P : Program) (C : CloRep Ω) (Φ : Env Ω) : Prop where
  funs : ∀ f fn, funGet Φ.funs f = some fn → Sound P f fn
  hofs : ∀ f h, funGet Φ.hofs f = some h → SoundH P f h
  clo : ∀ cl, Φ.clo = some cl → CloOk P C cl.as cl.b cl.g
end
section
variable {Ω : Type} {C : CloRep Ω} {P : Program} {T : Tab} {N : Nat}
variable {rc i : Nat} {dst : Option Nat} {ty : Nat} {pos : String} {after : Array Edge} {guard : Option (Nat × Bool)}
variable {G G1 : Ghost} {used used2 : Id → Prop} {st ws : S Ω} {a : Act} {w w' : World} {acc rs : List Loc} {K : Act → World → Prop} {Q : Exit → Act → World → Prop} {ρ ρ' : Nat → Option Own}
theorem allB_spec {α : Type} {f : α → Bool} : ∀ {l : List α}, allB f l = true → ∀ x ∈ l, f x = true
  | [], _, x, hx => by cases hx
  | a :: r, h, x, hx => by
    simp only [allB] at h
    split at h
    · rename_i ha
      rcases List.mem_cons.1 hx with rfl | hx
      · exact ha
      · exact allB_spec h x hx
    · cases h
theorem allB_tail {α : Type} {f : α → Bool} {a : α} {r : List α} (h : allB f (a :: r) = true) : f a = true ∧ allB f r = true := by
  simp only [allB] at h
  split at h
  · rename_i e; exact ⟨e, h⟩
  · cases h
theorem plainF_dats : ∀ as : List Ty, allB plainF (as.map fun t => PS.v (.dat t)) = true
  | [] => rfl
  | t :: r => by simp only [List.map_cons, allB, plainF]; exact plainF_dats r
/-- Data alone is handed over: as it is. -/
theorem pars_plain {VA : Loc → Value → Prop} {ρ ρe : Nat → Option Own} (hf : ∀ b, ¬ Ow ρ b → ¬ Ow ρe b) : ∀ {qs : List PS} {xs : List Pln} {ds : List DL} {vs : List Value} {p : Nat}, allB plainF qs = true → PlnsRep VA false ρ w rc i p qs xs ds vs → ParsRep ρe w p qs ds vs
  | [], xs, ds, vs, p, _, h => h.2
  | q :: qs, _, _, _, p, hb, ⟨x, xs, d1, d2, v, vs, rfl, rfl, rfl, hx, hxs⟩ => by
    obtain ⟨hq, hqs⟩ := allB_tail hb
    refine ⟨d1, d2, v, vs, rfl, rfl, ?_, pars_plain hf hqs hxs⟩
    cases q with
    | v s =>
      cases s with
      | dat t =>
        cases x with
        | d d0 => obtain ⟨y, e, hy⟩ := hx; exact ⟨y, e, RepV.mono (fun b _ h => ⟨rfl, hf b h⟩) hy⟩
        | t id s' => obtain ⟨h, _⟩ := hx; cases h
        | _ => exact hx.elim
      | _ => cases hq
    | ep t =>
      cases x with
      | d d0 =>
        obtain ⟨y, b, off, l, e, hv, hb, hr, hat⟩ := hx
        exact ⟨y, b, off, l, e, hv, hf b hb, hr.mono fun b _ h => ⟨rfl, hf b h⟩, hat⟩
      | _ => exact hx.elim
    | fn =>
      cases x with
      | n => exact hx
      | _ => exact hx.elim
    | _ => cases hq
/-- The state behind a step of the closure's. -/
theorem om_rep {d : Nat} (hr : Rep C G1 N used2 st a w) (hd : d < N) (hf : FrO G1.ρ w ρ' w') (hlt : ∀ b, Ow ρ' b → b < w'.heap.size) {t : Ty} {y : El t} {v : Value} (hv : RepV w' (Ow ρ') t y v) {s : Ω} (hs : C.K s w' (fun b => ρ' b = some .om) (Ow ρ')) :
    Fr G1.ρ w ρ' w' ∧ Rep C { G1 with ρ := ρ' } N used2 ([(.tmp d, avOf (rowB t) (unpack t y)), (.om, .one (.opq s))] ++ st) (a.put (some d) v) w' := by
  have hfr : Fr G1.ρ w ρ' w' := ⟨hf.os, hf.tape, hf.output, hf.size, hf.free, fun b hb => hf.keep b _ hb (by simp)⟩
  have hs1 : Step G1 w { G1 with ρ := ρ' } w' (fun l => inL l ([((Loc.tmp d), (avOf (rowB t) (unpack t y) : AV Ω)), (.om, .one (.opq s))].map (·.1)) = true) :=
    ⟨fun _ _ h => h, fun _ _ h => h, hf.os, hf.tape, hf.output, hf.size, hf.free, fun b l hb _ => hf.keep b _ hb (by simp), fun b hb => hf.keep b _ hb (by simp), fun b _ hn => absurd (by simp [inL, locB]) hn,
      fun b n id hb => by
        obtain ⟨h1, c, el, h2, h3⟩ := hr.box id b n hb
        obtain ⟨e1, e2⟩ := hf.keep b _ h1 (by simp)
        exact ⟨e2, ⟨c, el, e1.trans h2, h3⟩, fun j _ => by simp [World.cell?, e1]⟩, hlt, fun b _ _ hn => absurd (by simp [inL, locB]) hn⟩
  refine ⟨hfr, Rep.step hr hs1 (fun l hl => ?_) (fun t' ht => ?_) (put_size.trans hr.size) (put_defers.trans hr.defers) (fun id b n h => .inl h) hr.usedΓ hr.usedβ⟩
  · have hl' : l = .tmp d ∨ l = .om := by simpa [inL_iff] using hl
    rcases hl' with rfl | rfl
    · have hav : RepAV C { G1 with ρ := ρ' } w' none (avOf (rowB t) (unpack t y)) v := by
        unfold RepV Val at hv
        cases hb : rowB t with
        | true =>
          rw [hb] at hv
          obtain ⟨cs, rfl, hx⟩ := hv
          exact avOf_rep (unpack_rep hx) rfl
        | false =>
          rw [hb] at hv
          exact avOf_rep (unpack_rep hv) rfl
      have e1 : (a.put (some d) v).tmps.getD d undef = v := getD_put (by rw [hr.size]; exact hd)
      have e2 : S.get [((Loc.tmp d), (avOf (rowB t) (unpack t y) : AV Ω)), (.om, .one (.opq s))] (.tmp d) = avOf (rowB t) (unpack t y) := by simp [S.get, locB_self]
      show RepAt C _ _ w' (.tmp d) _
      rw [e2]
      exact RepAt.of (l := .tmp d) (RepAV1.of avOf_ne hav) e1
    · have e2 : S.get [((Loc.tmp d), (avOf (rowB t) (unpack t y) : AV Ω)), (.om, .one (.opq s))] .om = .one (.opq s) := by simp [S.get, locB]
      rw [e2]
      exact .inr ⟨s, rfl, hs⟩
  · refine getD_put_ne fun e => ?_
    subst e
    simp [inL, locB_self] at ht
theorem runs_get {l : Loc} {f : AV Ω → Prg Ω} (h : (Prg.get l f).Runs st acc rs ws) : (f (st.get l)).Runs st (l :: acc) rs ws := h
theorem om_get {s : Ω} (hr : Rep C G N used st a w) (h : st.get .om = .one (.opq s)) : C.K s w (fun b => G.ρ b = some .om) G.O := by
  have h1 := hr.at_ .om
  rw [h] at h1
  rcases h1 with h1 | ⟨s', e, h1⟩
  · cases h1
  · cases e; exact h1
theorem ok_callV {c : Call} {x : Operand} {cl : CloG Ω} (hcl : CloOk P C cl.as cl.b cl.g) (hc : c.callee = .value x) (hd : ∀ d, dst = some d → d < N)
    (hr : Rep C G N used st a w) (hf : FreshAt used rc i) (hval : a.eval x = C.val) (h : (callV cl rc i ⟨dst, .call c, ty, pos, after, guard⟩ c.args.toList).Runs st acc rs ws)
    (hK : ∀ G' a' w', Fr G.ρ w G'.ρ w' → Rep C G' N (usedAt used rc i) (ws ++ st) a' w' → K a' w') : (⟨dst, .call c, ty, pos, after, guard⟩ : Oper).wp P a w K Q := by
  obtain ⟨xs, ws', ws2, acc', G1, rfl, h1, hm, hr1, hx⟩ := argsP_runs hf _ _ 0 (hr.mono fun _ h => .inl h) h
  obtain ⟨ds, acc2, h2, hp⟩ := readPs_runs (i := i) hr1 _ xs _ 0 hx h1
  obtain ⟨z, hz, h3⟩ := runs_opt h2
  have hds := mkTup_un hz
  have h3 := runs_get h3
  cases hom : S.get (ws' ++ st) .om with
  | agg ls => simp only [hom] at h3; exact h3.elim
  | tup ls => simp only [hom] at h3; exact h3.elim
  | one lf =>
    simp only [hom] at h3
    cases lf with
    | opq s =>
      cases dst with
      | none => exact h3.elim
      | some d =>
        obtain ⟨y, hy, h4⟩ := h3
        obtain ⟨rfl, -⟩ := h4
        have hargs : (c.args.map a.eval).toList = c.args.toList.map a.eval := by simp
        obtain ⟨f, cs, e1, e2, e3⟩ := hcl G1.ρ w (c.args.map a.eval) s z y hy hr1.lt (om_get hr1 hom) (by rw [hds, hargs]; exact pars_plain (fun _ h => h) (plainF_dats _) hp)
        have hrun : (execOp a.eval ⟨some d, .call c, ty, pos, after, guard⟩).run P w = .ok (.enter f (c.args.map a.eval ++ cs)) w := by
          simp [execOp, Go.resolve, hc, hval, e1, Deferred.ofValue, invoke, e2]
        unfold Oper.wp
        rw [hrun, Oper.upon_enter]
        refine e3.mono ?_
        rintro e w' ⟨v, ρ', rfl, hfo, hlt, hv, hs⟩
        obtain ⟨k1, k2⟩ := om_rep hr1 (hd d rfl) hfo hlt hv hs
        refine hK_step hm.fr hK _ _ w' k1 (k2.mono ?_)
        rintro id (h | ⟨s, _, _, e⟩)
        · exact .inl h
        · exact .inr ⟨s, e⟩
    | _ => exact h3.elim
theorem unTup_t : ∀ {as : List Ty} {x : Tup as}, (unTup as x).map (·.t) = as
  | [], x => rfl
  | t :: ts, x => by simp only [unTup, List.map_cons]; rw [unTup_t]
/-- A closure that is called by other words does what is told of it. -/
theorem cloW_ok {cl : CloG Ω} (hcl : CloOk P C cl.as cl.b cl.g) (as : List Ty) (b : Ty) : CloOk P C as b (cloW cl as b) := by
  intro ρ w args s x y hy hlt hs hp
  simp only [cloW, Option.bind_eq_some_iff] at hy
  obtain ⟨x', hx', y', hy', r, hr, hy⟩ := hy
  cases hy
  have e := mkTup_un hx'
  have : cl.as = as := by rw [← unTup_t (x := x'), e, unTup_t]
  subst this
  obtain ⟨e', hr'⟩ := cast_eq hr
  obtain ⟨f, cs, h1, h2, h3⟩ := hcl ρ w args s x' y' hy' hlt hs (by rw [e]; exact hp)
  refine ⟨f, cs, h1, h2, h3.mono ?_⟩
  rintro e w' ⟨v, ρ', h4, h5, h6, h7, h8⟩
  subst e'
  cases hr'
  exact ⟨v, ρ', h4, h5, h6, h7, h8⟩
/-- Within a function that gets the closure on. -/
def ρon (ρ : Nat → Option Own) : Nat → Option Own := fun b => match ρ b with | none => none | some .om => some .om | some _ => some .ext
def isOm : Option Own → Bool | some .om => true | _ => false
theorem isOm_iff {x : Option Own} : isOm x = true ↔ x = some .om := by
  cases x with
  | none => simp [isOm]
  | some o => cases o <;> simp [isOm]
/-- Behind it. -/
def ρbk (ρ ρ' : Nat → Option Own) : Nat → Option Own := fun b => match ρ b with
  | some .om => if isOm (ρ' b) then some .om else none
  | none => if isOm (ρ' b) then some .om else none
  | some o => some o
theorem ρon_ow {b : Nat} : Ow (ρon ρ) b ↔ Ow ρ b := by
  unfold Ow ρon
  cases h : ρ b with
  | none => simp
  | some o => cases o <;> simp
theorem ρon_om {b : Nat} : ρon ρ b = some .om ↔ ρ b = some .om := by
  unfold ρon
  cases h : ρ b with
  | none => simp
  | some o => cases o <;> simp
theorem ρon_ext {b : Nat} {o : Own} (h : ρ b = some o) (ho : o ≠ .om) : ρon ρ b = some .ext := by
  unfold ρon
  rw [h]
  cases o <;> first | rfl | exact absurd rfl ho
theorem ρbk_keep {b : Nat} {o : Own} (h : ρ b = some o) (ho : o ≠ .om) : ρbk ρ ρ' b = some o := by
  unfold ρbk
  rw [h]
  cases o <;> first | rfl | exact absurd rfl ho
theorem ρbk_else {b : Nat} (h : ρ b = none ∨ ρ b = some .om) : ρbk ρ ρ' b = if isOm (ρ' b) then some .om else none := by
  unfold ρbk
  rcases h with h | h <;> rw [h]
theorem onOff (ρ : Nat → Option Own) (b : Nat) : (ρ b = none ∨ ρ b = some .om) ∨ ∃ o, ρ b = some o ∧ o ≠ .om := by
  cases h : ρ b with
  | none => exact .inl (.inl rfl)
  | some o => cases o <;> first | exact .inl (.inr rfl) | exact .inr ⟨_, rfl, by simp⟩
theorem bk_step (hf : Fr (ρon ρ) w ρ' w') : FrO ρ w (ρbk ρ ρ') w' ∧ (∀ b, ¬ Ow ρ' b → ¬ Ow (ρbk ρ ρ') b) ∧ ∀ b, ρ' b = some .om → ρbk ρ ρ' b = some .om := by
  have k1 : ∀ b, ¬ Ow ρ' b → ¬ Ow (ρbk ρ ρ') b := by
    intro b h h'
    rcases onOff ρ b with h1 | ⟨o, h1, h2⟩
    · refine h' ?_
      rw [ρbk_else h1, if_neg]
      intro e
      exact h (by unfold Ow; rw [isOm_iff.1 e]; simp)
    · exact h (by unfold Ow; rw [(hf.ext b (ρon_ext h1 h2)).2]; simp)
  refine ⟨⟨hf.os, hf.tape, hf.output, hf.size, fun b hb hn => ?_, fun b o h ho => ?_⟩, k1, fun b hb => ?_⟩
  · obtain ⟨e1, e2⟩ := hf.free b hb (fun h => hn (ρon_ow.1 h))
    exact ⟨e1, k1 b e2⟩
  · exact ⟨(hf.ext b (ρon_ext h ho)).1, ρbk_keep h ho⟩
  · rcases onOff ρ b with h1 | ⟨o, h1, h2⟩
    · rw [ρbk_else h1, if_pos (isOm_iff.2 hb)]
    · rw [(hf.ext b (ρon_ext h1 h2)).2] at hb; cases hb
theorem fnAt_of : ∀ {qs : List PS} {os : List Operand} {x : Operand}, fnOp qs os = some x → (allB (fun q => match q with | .fn => true | _ => false) qs = true → True) → ∃ k : Nat, qs[k]? = some PS.fn ∧ os[k]? = some x
  | [], _, x, h, _ => by cases h
  | q :: qs, [], x, h, _ => by cases q <;> cases h
  | q :: qs, o :: os, x, h, _ => by
    cases q with
    | fn => cases h; exact ⟨0, rfl, rfl⟩
    | _ =>
      obtain ⟨k, h1, h2⟩ := fnAt_of (qs := qs) (os := os) h (fun _ => trivial)
      exact ⟨k + 1, by simpa using h1, by simpa using h2⟩
theorem oneFn_at : ∀ {qs : List PS} {k l : Nat}, oneFn qs = true → qs[k]? = some PS.fn → qs[l]? = some PS.fn → k = l
  | [], k, l, h, _, _ => by cases h
  | q :: qs, k, l, h, h1, h2 => by
    have no : q = .fn → ∀ m : Nat, qs[m]? = some PS.fn → False := by
      rintro rfl m hm
      have := allB_spec (show allB (fun q => match q with | PS.fn => false | _ => true) qs = true from h) _ (List.mem_of_getElem? hm)
      cases this
    cases k with
    | zero =>
      have hq : q = .fn := by simpa using h1
      cases l with
      | zero => rfl
      | succ l => exact (no hq l (by simpa using h2)).elim
    | succ k =>
      cases l with
      | zero =>
        have hq : q = .fn := by simpa using h2
        exact (no hq k (by simpa using h1)).elim
      | succ l =>
        have h1' : qs[k]? = some PS.fn := by simpa using h1
        have h2' : qs[l]? = some PS.fn := by simpa using h2
        cases q with
        | fn => exact (no rfl k h1').elim
        | _ => exact congrArg (· + 1) (oneFn_at (qs := qs) h h1' h2')
theorem fnAt_one {C' : CloRep Ω} {qs : List PS} {os : List Operand} {x : Operand} (ho : oneFn qs = true) (hx : fnOp qs os = some x) (hv : a.eval x = C'.val) : FnAt C' qs (os.map a.eval) := by
  obtain ⟨k, h1, h2⟩ := fnAt_of hx (fun _ => trivial)
  intro l hl
  obtain rfl := oneFn_at ho hl h1
  rw [List.getElem?_map, h2, Option.map_some, hv]
theorem ok_callHV {c : Call} {f : Nat} {x : Operand} {cl : CloG Ω} {h : Hof} (hcl : CloOk P C cl.as cl.b cl.g) (hs : SoundH P f h) (hc : c.callee = .value (.func f)) (hd : ∀ d, dst = some d → d < N)
    (hr : Rep C G N used st a w) (hf : FreshAt used rc i) (hx0 : fnOp h.sig.pars c.args.toList = some x) (ho : oneFn h.sig.pars = true) (hval : a.eval x = C.val) (hh : (callHV false cl h rc i ⟨dst, .call c, ty, pos, after, guard⟩ c.args.toList).Runs st acc rs ws)
    (hK : ∀ G' a' w', Fr G.ρ w G'.ρ w' → Rep C G' N (usedAt used rc i) (ws ++ st) a' w' → K a' w') : (⟨dst, .call c, ty, pos, after, guard⟩ : Oper).wp P a w K Q := by
  rcases (runs_ite hh).symm with ⟨_, hh⟩ | ⟨hpl, hh⟩
  · exact hh.elim
  obtain ⟨xs, ws', ws2, acc', G1, rfl, h1, hm, hr1, hx⟩ := argsP_runs hf _ _ 0 (hr.mono fun _ h => .inl h) hh
  obtain ⟨ds, acc2, h2, hp⟩ := readPs_runs (i := i) hr1 _ xs _ 0 hx h1
  obtain ⟨z, hz, h3⟩ := runs_opt h2
  have hds := mkTup_un hz
  have h3 := runs_get h3
  cases hom : S.get (ws' ++ st) .om with
  | agg ls => simp only [hom] at h3; exact h3.elim
  | tup ls => simp only [hom] at h3; exact h3.elim
  | one lf =>
    simp only [hom] at h3
    cases lf with
    | opq s =>
      cases dst with
      | none => exact h3.elim
      | some d =>
        split at h3
        · rename_i s' d' t hs' hd' hres
          cases hs'
          cases hd'
          obtain ⟨y, hy, h4⟩ := h3
          simp only at h4
          split at h4
          · rename_i e he
            obtain ⟨r, hr', h5⟩ := runs_opt h4
            obtain ⟨rfl, -⟩ := h5
            have hargs : (c.args.map a.eval).toList = c.args.toList.map a.eval := by simp
            have hrun : (execOp a.eval ⟨some d, .call c, ty, pos, after, guard⟩).run P w = .ok (.enter f (c.args.map a.eval)) w := by
              have := hs.enter (c.args.map a.eval) w
              simp [execOp, Go.resolve, hc, Act.eval, Deferred.ofValue, invoke, this]
            have hKs := om_get hr1 hom
            have hcalls := hs.calls Ω C _ (cloW_ok hcl h.as h.b) (ρon G1.ρ) w (c.args.map a.eval) s z y hy (fun b h => hr1.lt b (ρon_ow.1 h))
              (by rw [hds, hargs]; exact pars_plain (fun b h h' => h (ρon_ow.1 h')) hpl hp) (by rw [hargs]; exact fnAt_one ho hx0 hval)
              (C.stable hKs (Nat.le_refl _) (fun _ _ => rfl) (fun b _ hn => ⟨rfl, fun h => hn (ρon_ow.1 h)⟩) (fun b hb => ρon_om.2 hb))
            unfold Oper.wp
            rw [hrun, Oper.upon_enter]
            refine hcalls.mono ?_
            rintro e' w' ⟨v, ρ', rfl, hfr, hlt, ⟨d1, d2, ey, hra, hou⟩, hs2⟩
            obtain ⟨k1, k2, k3⟩ := bk_step hfr
            have hv : RepV w' (Ow (ρbk G1.ρ ρ')) t r v := by
              rw [hres] at hra
              obtain ⟨x1, e1, hx1⟩ : ∃ x, d1 = [⟨t, x⟩] ∧ RepV w' (Ow ρ') t x v := hra
              rw [e1] at ey
              rw [he] at ey
              have : e = ⟨t, x1⟩ := (List.cons.inj ey).1
              subst this
              have h6 : cast? t t x1 = some r := hr'
              rw [cast_self] at h6
              cases h6
              exact hx1.mono fun b _ h => ⟨rfl, k2 b h⟩
            obtain ⟨k4, k5⟩ := om_rep hr1 (hd d rfl) k1 (fun b hb => hlt b (Classical.byContradiction fun h => k2 b h hb)) hv (C.stable hs2 (Nat.le_refl _) (fun _ _ => rfl) (fun b _ hn => ⟨rfl, k2 b hn⟩) k3)
            refine hK_step hm.fr hK _ _ w' k4 (k5.mono ?_)
            rintro id (h | ⟨s, _, _, e⟩)
            · exact .inl h
            · exact .inr ⟨s, e⟩
          · exact h4.elim
        · exact h3.elim
    | _ => exact h3.elim
/-! ### what is lent -/
/-- A closure, while some blocks are lent: it never gets them. -/
def lentC (C : CloRep Ω) (Lt : Nat → Prop) : CloRep Ω :=
  ⟨C.val, C.fn, fun s w M O => (∃ n, (∀ b, Lt b → b < n) ∧ n ≤ w.heap.size) ∧ C.K s w (fun b => M b ∧ ¬ Lt b) (fun b => O b ∨ Lt b), fun h hs h1 h2 h3 => by
    obtain ⟨⟨n, hn, hle⟩, hk⟩ := h
    exact ⟨⟨n, hn, Nat.le_trans hle hs⟩, C.stable hk hs (fun b hb => h1 b hb.1) (fun b hb hno => by
      obtain ⟨e1, e2⟩ := h2 b hb (fun h => hno (.inl h))
      exact ⟨e1, fun h => h.elim e2 fun h => hno (.inr h)⟩) (fun b hb => ⟨h3 b hb.1, hb.2⟩)⟩⟩
theorem scal_pars : ∀ {as : List Ty} {p : Nat} {ds : List DL} {vs : List Value}, allB scalar as = true → ParsRep ρ w p (as.map fun t => PS.v (.dat t)) ds vs → ParsRep ρ' w p (as.map fun t => PS.v (.dat t)) ds vs
  | [], p, ds, vs, _, h => h
  | t :: as, p, ds, vs, hs, ⟨d1, d2, v, vs', e1, e2, ⟨x, e3, h1⟩, h2⟩ => by
    obtain ⟨hs1, hs2⟩ := allB_tail hs
    refine ⟨d1, d2, v, vs', e1, e2, ⟨x, e3, ?_⟩, scal_pars hs2 h2⟩
    exact Val.mono h1 fun l h => RepC_scalar hs1 h
open Classical in
theorem lent_ok {Lt : Nat → Prop} {as : List Ty} {b : Ty} {g : Ω → Tup as → Option (El b × Ω)} (hsc : allB scalar as = true) (hg : CloOk P C as b g) : CloOk P (lentC C Lt) as b g := by
  intro ρ w args s x y hy hlt hK hp
  obtain ⟨⟨n, hn, hle⟩, hK⟩ := hK
  have e1 : ∀ b, Lt b → (fun b => if Lt b then some Own.ext else ρ b) b = some .ext := fun b h => by simp [h]
  have e2 : ∀ b, ¬ Lt b → (fun b => if Lt b then some Own.ext else ρ b) b = ρ b := fun b h => by simp [h]
  have ow : ∀ b, Ow (fun b => if Lt b then some Own.ext else ρ b) b ↔ (Ow ρ b ∨ Lt b) := by
    intro b
    unfold Ow
    by_cases h : Lt b
    · rw [e1 b h]; simp [h]
    · rw [e2 b h]; simp [h]
  obtain ⟨f, cs, h1, h2, h3⟩ := hg (fun b => if Lt b then some Own.ext else ρ b) w args s x y hy
    (fun b h => ((ow b).1 h).elim (hlt b) fun h => Nat.lt_of_lt_of_le (hn b h) hle)
    (C.stable hK (Nat.le_refl _) (fun _ _ => rfl) (fun b _ hno => ⟨rfl, fun h => hno ((ow b).1 h)⟩) (fun b hb => (e2 b hb.2).trans hb.1)) (scal_pars hsc hp)
  refine ⟨f, cs, h1, h2, h3.mono ?_⟩
  rintro e w' ⟨v, ρ2, rfl, hf, hlt2, hv, hK2⟩
  have l2 : ∀ b, Lt b → w'.heap[b]? = w.heap[b]? ∧ ρ2 b = some .ext := fun b h => hf.keep b _ (e1 b h) (by simp)
  have r1 : ∀ b, Lt b → (fun b => if Lt b then ρ b else ρ2 b) b = ρ b := fun b h => by simp [h]
  have r2 : ∀ b, ¬ Lt b → (fun b => if Lt b then ρ b else ρ2 b) b = ρ2 b := fun b h => by simp [h]
  have sub : ∀ b, ¬ Ow ρ2 b → ¬ Lt b ∧ ¬ Ow (fun b => if Lt b then ρ b else ρ2 b) b := by
    intro b h
    have hl : ¬ Lt b := fun hl => h (by unfold Ow; rw [(l2 b hl).2]; simp)
    exact ⟨hl, by unfold Ow; rw [r2 b hl]; exact h⟩
  refine ⟨v, fun b => if Lt b then ρ b else ρ2 b, rfl, ⟨hf.os, hf.tape, hf.output, hf.size, fun b hb hno => ?_, fun b o h ho => ?_⟩, fun b hb => ?_, hv.mono fun b _ h => ⟨rfl, (sub b h).2⟩, ⟨n, hn, Nat.le_trans hle hf.size⟩, C.stable hK2 (Nat.le_refl _) (fun _ _ => rfl) (fun b _ hno => ⟨rfl, fun h => h.elim (sub b hno).2 (sub b hno).1⟩) (fun b hb => ?_)⟩
  · by_cases hl : Lt b
    · exact ⟨(l2 b hl).1, by unfold Ow; rw [r1 b hl]; exact hno⟩
    · obtain ⟨k1, k2⟩ := hf.free b hb (by unfold Ow; rw [e2 b hl]; exact hno)
      exact ⟨k1, by unfold Ow; rw [r2 b hl]; exact k2⟩
  · by_cases hl : Lt b
    · exact ⟨(l2 b hl).1, (r1 b hl).trans h⟩
    · obtain ⟨k1, k2⟩ := hf.keep b o ((e2 b hl).trans h) ho
      exact ⟨k1, (r2 b hl).trans k2⟩
  · by_cases hl : Lt b
    · exact Nat.lt_of_lt_of_le (hn b hl) (Nat.le_trans hle hf.size)
    · exact hlt2 b (by unfold Ow at hb; rw [r2 b hl] at hb; exact hb)
  · have hl : ¬ Lt b := fun hl => by rw [(l2 b hl).2] at hb; cases hb
    exact ⟨(r2 b hl).trans hb, hl⟩
/-- Within a function that gets the closure on and only looks at all else. -/
def ρlk (ρ : Nat → Option Own) : Nat → Option Own := fun b => match ρ b with | some .om => some .om | _ => none
theorem ρlk_ow {b : Nat} : Ow (ρlk ρ) b ↔ ρ b = some .om := by
  unfold Ow ρlk
  cases h : ρ b with
  | none => simp
  | some o => cases o <;> simp
theorem ρlk_om {b : Nat} : ρlk ρ b = some .om ↔ ρ b = some .om := by
  unfold ρlk
  cases h : ρ b with
  | none => simp
  | some o => cases o <;> simp
theorem pars_lk {VA : Loc → Value → Prop} : ∀ {qs : List PS} {xs : List Pln} {ds : List DL} {vs : List Value} {p : Nat}, allB plainF qs = true → PlnsRep VA true ρ w rc i p qs xs ds vs → ParsRep (ρlk ρ) w p qs ds vs
  | [], xs, ds, vs, p, _, h => h.2
  | q :: qs, _, _, _, p, hb, ⟨x, xs, d1, d2, v, vs, rfl, rfl, rfl, hx, hxs⟩ => by
    obtain ⟨hq, hqs⟩ := allB_tail hb
    refine ⟨d1, d2, v, vs, rfl, rfl, ?_, pars_lk hqs hxs⟩
    cases q with
    | v s =>
      cases s with
      | dat t =>
        cases x with
        | d d0 => obtain ⟨y, e, hy⟩ := hx; exact ⟨y, e, RepV.mono (fun b _ h => ⟨rfl, fun h' => h (ρlk_ow.1 h')⟩) hy⟩
        | t id s' => obtain ⟨h, _⟩ := hx; cases h
        | _ => exact hx.elim
      | _ => cases hq
    | ep t =>
      cases x with
      | d d0 =>
        obtain ⟨y, b, off, l, e, hv, hb, hr, hat⟩ := hx
        have k : ∀ {b}, ¬ Ow ρ b → ¬ Ow (ρlk ρ) b := fun h h' => h (by unfold Ow; rw [ρlk_ow.1 h']; simp)
        exact ⟨y, b, off, l, e, hv, k hb, hr.mono fun b _ h => ⟨rfl, k h⟩, hat⟩
      | _ => exact hx.elim
    | fn =>
      cases x with
      | n => exact hx
      | _ => exact hx.elim
    | _ => cases hq
theorem ok_callHL {c : Call} {f : Nat} {x : Operand} {cl : CloG Ω} {h : Hof} (hcl : CloOk P C cl.as cl.b cl.g) (hs : SoundH P f h) (hc : c.callee = .value (.func f)) (hd : ∀ d, dst = some d → d < N)
    (hsa : allB scalar h.as = true) (hsr : allB lookR h.sig.res = true)
    (hr : Rep C G N used st a w) (hf : FreshAt used rc i) (hx0 : fnOp h.sig.pars c.args.toList = some x) (ho : oneFn h.sig.pars = true) (hval : a.eval x = C.val) (hh : (callHV true cl h rc i ⟨dst, .call c, ty, pos, after, guard⟩ c.args.toList).Runs st acc rs ws)
    (hK : ∀ G' a' w', Fr G.ρ w G'.ρ w' → Rep C G' N (usedAt used rc i) (ws ++ st) a' w' → K a' w') : (⟨dst, .call c, ty, pos, after, guard⟩ : Oper).wp P a w K Q := by
  rcases (runs_ite hh).symm with ⟨_, hh⟩ | ⟨hpl, hh⟩
  · exact hh.elim
  obtain ⟨xs, ws', ws2, acc', G1, rfl, h1, hm, hr1, hx⟩ := argsP_runs hf _ _ 0 (hr.mono fun _ h => .inl h) hh
  obtain ⟨ds, acc2, h2, hp⟩ := readPs_runs (i := i) hr1 _ xs _ 0 hx h1
  obtain ⟨z, hz, h3⟩ := runs_opt h2
  have hds := mkTup_un hz
  have h3 := runs_get h3
  cases hom : S.get (ws' ++ st) .om with
  | agg ls => simp only [hom] at h3; exact h3.elim
  | tup ls => simp only [hom] at h3; exact h3.elim
  | one lf =>
    simp only [hom] at h3
    cases lf with
    | opq s =>
      cases dst with
      | none => exact h3.elim
      | some d =>
        split at h3
        · rename_i s' d' t hs' hd' hres
          cases hs'
          cases hd'
          obtain ⟨y, hy, h4⟩ := h3
          simp only at h4
          split at h4
          · rename_i e he
            obtain ⟨r, hr', h5⟩ := runs_opt h4
            obtain ⟨rfl, -⟩ := h5
            have hst : scalar t = true := by
              rw [hres] at hsr
              exact (allB_tail hsr).1
            have hargs : (c.args.map a.eval).toList = c.args.toList.map a.eval := by simp
            have hrun : (execOp a.eval ⟨some d, .call c, ty, pos, after, guard⟩).run P w = .ok (.enter f (c.args.map a.eval)) w := by
              have := hs.enter (c.args.map a.eval) w
              simp [execOp, Go.resolve, hc, Act.eval, Deferred.ofValue, invoke, this]
            have hKs := om_get hr1 hom
            -- all that is owned and isn't the closure's is lent
            have lt_iff : ∀ b, (Ow G1.ρ b ∧ G1.ρ b ≠ some .om) ∨ G1.ρ b = some .om ↔ Ow G1.ρ b := fun b => ⟨fun h => h.elim (·.1) fun h => (by unfold Ow; rw [h]; simp), fun h => (Classical.em (G1.ρ b = some .om)).elim .inr fun h2 => .inl ⟨h, h2⟩⟩
            have hcalls := hs.calls Ω (lentC C fun b => Ow G1.ρ b ∧ G1.ρ b ≠ some .om) _ (lent_ok hsa (cloW_ok hcl h.as h.b)) (ρlk G1.ρ) w (c.args.map a.eval) s z y hy (fun b h => hr1.lt b (by show G1.ρ b ≠ none; rw [ρlk_ow.1 h]; simp))
              (by rw [hds, hargs]; exact pars_lk hpl hp) (by rw [hargs]; exact fnAt_one (C' := lentC C _) ho hx0 hval)
              ⟨⟨w.heap.size, fun b h => hr1.lt b h.1, Nat.le_refl _⟩, C.stable hKs (Nat.le_refl _) (fun _ _ => rfl) (fun b _ hn => ⟨rfl, fun h => hn ((lt_iff b).1 (h.elim (fun h => .inr (ρlk_ow.1 h)) .inl))⟩) (fun b hb => ⟨ρlk_om.2 hb, fun h => h.2 hb⟩)⟩
            unfold Oper.wp
            rw [hrun, Oper.upon_enter]
            refine hcalls.mono ?_
            rintro e' w' ⟨v, ρ', rfl, hfr, hlt, ⟨d1, d2, ey, hra, hou⟩, -, hs2⟩
            have kfr : FrO G1.ρ w (ρbk G1.ρ ρ') w' := by
              refine ⟨hfr.os, hfr.tape, hfr.output, hfr.size, fun b hb hn => ?_, fun b o h ho => ?_⟩
              · have hn' : G1.ρ b = none := Classical.byContradiction fun h => hn h
                obtain ⟨e1, e2⟩ := hfr.free b hb (fun h => by rw [ρlk_ow.1 h] at hn'; cases hn')
                refine ⟨e1, ?_⟩
                unfold Ow
                rw [ρbk_else (.inl hn'), if_neg]
                · simp
                · intro e; exact e2 (by unfold Ow; rw [isOm_iff.1 e]; simp)
              · have hb : b < w.heap.size := hr1.lt b (by show G1.ρ b ≠ none; rw [h]; simp)
                exact ⟨(hfr.free b hb (fun h' => by rw [ρlk_ow.1 h'] at h; exact ho (Option.some.inj h).symm)).1, ρbk_keep h ho⟩
            have hv : RepV w' (Ow (ρbk G1.ρ ρ')) t r v := by
              rw [hres] at hra
              obtain ⟨x1, e1, hx1⟩ : ∃ x, d1 = [⟨t, x⟩] ∧ RepV w' (Ow ρ') t x v := hra
              rw [e1] at ey
              rw [he] at ey
              have : e = ⟨t, x1⟩ := (List.cons.inj ey).1
              subst this
              have h6 : cast? t t x1 = some r := hr'
              rw [cast_self] at h6
              cases h6
              exact Val.mono hx1 fun l h => RepC_scalar hst h
            have hK3 : C.K y.2 w' (fun b => ρbk G1.ρ ρ' b = some .om) (Ow (ρbk G1.ρ ρ')) := by
              refine C.stable hs2 (Nat.le_refl _) (fun _ _ => rfl) (fun b _ hn => ⟨rfl, fun h => ?_⟩) (fun b hb => ?_)
              · rcases onOff G1.ρ b with h1 | ⟨o, h1, h2⟩
                · unfold Ow at h
                  rw [ρbk_else h1] at h
                  by_cases ho : isOm (ρ' b) = true
                  · exact hn (.inl (by unfold Ow; rw [isOm_iff.1 ho]; simp))
                  · rw [if_neg ho] at h; exact h rfl
                · exact hn (.inr ⟨by unfold Ow; rw [h1]; simp, by rw [h1]; intro e; exact h2 (Option.some.inj e)⟩)
              · obtain ⟨hb1, hb2⟩ := hb
                rcases onOff G1.ρ b with h1 | ⟨o, h1, h2⟩
                · rw [ρbk_else h1, if_pos (isOm_iff.2 hb1)]
                · exact absurd ⟨by unfold Ow; rw [h1]; simp, by rw [h1]; intro e; exact h2 (Option.some.inj e)⟩ hb2
            have hlt' : ∀ b, Ow (ρbk G1.ρ ρ') b → b < w'.heap.size := by
              intro b hb
              rcases onOff G1.ρ b with h1 | ⟨o, h1, h2⟩
              · unfold Ow at hb
                rw [ρbk_else h1] at hb
                by_cases ho : isOm (ρ' b) = true
                · exact hlt b (by unfold Ow; rw [isOm_iff.1 ho]; simp)
                · rw [if_neg ho] at hb; exact absurd rfl hb
              · exact Nat.lt_of_lt_of_le (hr1.lt b (by show G1.ρ b ≠ none; rw [h1]; simp)) hfr.size
            obtain ⟨k4, k5⟩ := om_rep hr1 (hd d rfl) kfr hlt' hv hK3
            refine hK_step hm.fr hK _ _ w' k4 (k5.mono ?_)
            rintro id (h | ⟨s, _, _, e⟩)
            · exact .inl h
            · exact .inr ⟨s, e⟩
          · exact h4.elim
        · exact h3.elim
    | _ => exact h3.elim
end
end Go.Proofs.Ytbgefphoochgcaa.FE
