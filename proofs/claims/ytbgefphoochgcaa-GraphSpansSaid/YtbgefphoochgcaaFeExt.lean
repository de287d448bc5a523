/- FE, part 29: a closure of the function's own does what its function does; a function that takes it. -/
import Derived.Test.YtbgefphoochgcaaFeCap
namespace Go.Proofs.Ytbgefphoochgcaa.FE
open Go
set_option linter.unusedVariables false
set_option linter.unusedSimpArgs false
section
variable {P : Program} {w w' : World} {ρ ρ' : Nat → Option Own}
/-- Behind a closure's call: what it owns. -/
def ρcl (ρ ρ2 : Nat → Option Own) : Nat → Option Own := fun b => match ρ b with
  | some .om => (ρ2 b).map fun _ => .om
  | none => (ρ2 b).map fun _ => .om
  | some o => some o
theorem ρcl_keep {b : Nat} {o : Own} (h : ρ b = some o) (ho : o ≠ .om) : ρcl ρ ρ' b = some o := by
  unfold ρcl
  rw [h]
  cases o <;> first | rfl | exact absurd rfl ho
theorem ρcl_else {b : Nat} (h : ρ b = none ∨ ρ b = some .om) : ρcl ρ ρ' b = (ρ' b).map fun _ => .om := by
  unfold ρcl
  rcases h with h | h <;> rw [h]
theorem cap_ok {fn : Fun} {f : Nat} {as : List Ty} {b : Ty} (hs : Sound P f fn) (h1 : datsB (fn.sig.pars.take as.length) as = true) (h2 : resB fn.sig.res b = true) (ptrs : Array Value) :
    CloOk P (capClo f as.length (fn.sig.pars.drop as.length) (capTys fn as.length) ptrs) as b (cloG fn as b (capTys fn as.length)) := by
  intro ρ w args s x y hy hlt hK hp
  obtain ⟨hb, ρc, c1, c2, c3⟩ := hK
  have e0 : fn.sig.pars = (as.map fun t => PS.v (.dat t)) ++ fn.sig.pars.drop as.length := by
    rw [← datsB_eq h1, List.take_append_drop]
  simp only [cloG, Option.bind_eq_some_iff] at hy
  obtain ⟨z, hz, y0, hy0, hy⟩ := hy
  have ez := mkTup_un hz
  refine ⟨f, ptrs, rfl, hs.enter _ _, ?_⟩
  have ow : ∀ b, Ow (fun b => (ρ b).bind fun _ => ρc b) b ↔ Ow ρ b := by
    intro b
    constructor
    · intro h e
      refine h ?_
      show (ρ b).bind _ = none
      rw [e]; rfl
    · intro h e
      cases hb : ρ b with
      | none => exact h hb
      | some o =>
        have e' : (ρ b).bind (fun _ => ρc b) = none := e
        rw [hb] at e'
        exact c1 b h e'
  have hlen : (as.map fun t => PS.v (.dat t)).length = as.length := by simp
  have hp' : ParsRep (fun b => (ρ b).bind fun _ => ρc b) w 0 fn.sig.pars (unTup _ z) (args ++ ptrs).toList := by
    rw [ez, e0, Array.toList_append]
    refine pars_app (dats_tr (fun b _ hn => ⟨rfl, fun h => hn ((ow b).1 h)⟩) hp) ?_
    rw [hlen, Nat.zero_add]
    refine boxes_tr (p := as.length) (p' := as.length) (m := 0) (fun k b e => ⟨rfl, ?_⟩) (fun k j b e => ⟨rfl, ?_⟩) (fun b _ hn => ⟨rfl, fun h => hn ?_⟩) hb c3
    · show (ρ b).bind _ = _
      have : ρ b = some .om := c2 b _ e (by simp)
      rw [this]; exact e
    · show (ρ b).bind _ = _
      have : ρ b = some .om := c2 b _ e (by simp)
      rw [this]; exact e
    · exact c1 b ((ow b).1 h)
  refine (hs.calls _ w (args ++ ptrs) z y0 hy0 (fun b h => hlt b ((ow b).1 h)) hp').mono ?_
  rintro e w' ⟨v, ρ2, rfl, hfr, hlt', d1, d2, ey, hra, hou⟩
  rw [resB_eq h2] at hra
  obtain ⟨x1, rfl, hx1⟩ : ∃ x, d1 = [⟨b, x⟩] ∧ RepV w' (Ow ρ2) b x v := hra
  rw [ey] at hy
  simp only [List.cons_append, List.nil_append, Option.bind_eq_some_iff] at hy
  obtain ⟨r, hr, s', hs', hy⟩ := hy
  cases hy
  rw [cast_self] at hr
  cases hr
  have es := mkOut_un hs'
  -- what isn't the closure's stays
  have keep : ∀ b o, ρ b = some o → o ≠ .om → w'.heap[b]? = w.heap[b]? ∧ ρ2 b = some .ext := by
    intro b o h ho
    have hO : Ow ρ b := by unfold Ow; rw [h]; simp
    cases hc : ρc b with
    | none => exact absurd hc (c1 b hO)
    | some o' =>
      have : o' = .ext := Classical.byContradiction fun hne => by
        have : ρ b = some .om := c2 b o' hc hne
        rw [h] at this
        cases this
        exact ho rfl
      subst this
      exact hfr.ext b (by show (ρ b).bind _ = _; rw [h]; exact hc)
  have sub : ∀ b, Ow (ρcl ρ ρ2) b → Ow ρ2 b := by
    intro b h e
    rcases onOff ρ b with h1 | ⟨o, h1, h2⟩
    · refine h ?_
      rw [ρcl_else h1, e]; rfl
    · rw [(keep b o h1 h2).2] at e; cases e
  have om_of : ∀ b o, ρ2 b = some o → o ≠ .ext → ρcl ρ ρ2 b = some .om := by
    intro b o h ho
    rcases onOff ρ b with h1 | ⟨o', h1, h2⟩
    · rw [ρcl_else h1, h]; rfl
    · rw [(keep b o' h1 h2).2] at h
      cases h
      exact absurd rfl ho
  refine ⟨v, ρcl ρ ρ2, rfl, ⟨hfr.os, hfr.tape, hfr.output, hfr.size, fun b hb hn => ?_, fun b o h ho => ⟨(keep b o h ho).1, ρcl_keep h ho⟩⟩, fun b h => hlt' b (sub b h), hx1.mono fun b _ h => ⟨rfl, fun h' => h (sub b h')⟩, hb, ρ2, sub, fun b o h ho => om_of b o h ho, ?_⟩
  · obtain ⟨e1, e2⟩ := hfr.free b hb (fun h => hn ((ow b).1 h))
    exact ⟨e1, fun h => e2 (sub b h)⟩
  · rw [e0, Array.toList_append] at hou
    obtain ⟨k1, k2, v1, v2, e1, e2, o1, o2⟩ := outs_split hou
    have hk1 := dats_outs o1
    subst hk1
    have hl1 : args.toList.length = v1.length := by
      have h3 := outs_len o1
      have h4 := pars_len hp
      rw [h3, ← h4]
    obtain ⟨rfl, rfl⟩ := List.append_inj e2 hl1
    rw [hlen, Nat.zero_add] at o2
    rw [es]
    have : d2 = k2 := by simpa using e1
    rw [this]
    exact (boxes_outs hb).1 o2
/-- Within: the variables' blocks are the closure's memory. -/
def capO (n1 : Nat) : Own → Own
  | .bx id => if n1 ≤ id.2.2 then .om else .bx id
  | .at_ (.box id j) => if n1 ≤ id.2.2 then .om else .at_ (.box id j)
  | o => o
def reix (n1 n : Nat) : Own → Own
  | .bx id => if n1 ≤ id.2.2 then .bx (0, 0, id.2.2 - n1 + n) else .ext
  | .at_ (.box id j) => if n1 ≤ id.2.2 then .at_ (.box (0, 0, id.2.2 - n1 + n) j) else .ext
  | _ => .ext
def backO (n n1 : Nat) : Own → Option Own
  | .bx id => some (.bx (0, 0, id.2.2 - n + n1))
  | .at_ (.box id j) => some (.at_ (.box (0, 0, id.2.2 - n + n1) j))
  | _ => none
theorem par_tr {p n1 : Nat} {q : PS} {ds : List DL} {v : Value} (hp : p < n1) (h : ParRep ρ w p q ds v) : ParRep (fun b => (ρ b).map (capO n1)) w p q ds v := by
  have ow : ∀ b, ¬ Ow ρ b → ¬ Ow (fun b => (ρ b).map (capO n1)) b := by
    intro b h h'
    refine h' ?_
    have : ρ b = none := Classical.byContradiction fun e => h e
    show (ρ b).map _ = none
    rw [this]; rfl
  have hf : Free w (Ow ρ) w (Ow (fun b => (ρ b).map (capO n1))) := fun b _ h => ⟨rfl, ow b h⟩
  have hn : ¬ n1 ≤ p := by omega
  have at_ : ∀ b, ρ b = some (.at_ (.tmp p)) → w.heap[b]? = w.heap[b]? ∧ (fun b => (ρ b).map (capO n1)) b = some (.at_ (.tmp p)) := fun b hb => ⟨rfl, by show (ρ b).map _ = _; rw [hb]; rfl⟩
  cases q with
  | v s =>
    cases s with
    | dat t => obtain ⟨x, e, h⟩ := h; exact ⟨x, e, h.mono hf⟩
    | arr e => obtain ⟨x, e, h⟩ := h; exact ⟨x, e, h.tr2 at_ hf⟩
    | omp k u => obtain ⟨x, e, h⟩ := h; exact ⟨x, e, h.tr2 at_ hf⟩
  | mu s => obtain ⟨x, e, h⟩ := h; exact ⟨x, e, h.tr2 at_ hf⟩
  | ep t => obtain ⟨x, b, off, l, e, hv, hb, hr, hat⟩ := h; exact ⟨x, b, off, l, e, hv, ow b hb, hr.mono hf, hat⟩
  | bx ls =>
    have h' : BoxRep ρ w (0, 0, p) ls ds v := h
    exact BoxRep.tr2 h' (fun b hb => ⟨rfl, by show (ρ b).map _ = _; rw [hb]; simp [capO, hn]⟩) (fun j b hb => ⟨rfl, by show (ρ b).map _ = _; rw [hb]; simp [capO, hn]⟩) hf
  | fn => exact h
theorem pars_tr {n1 : Nat} : ∀ {qs : List PS} {p : Nat} {ds : List DL} {vs : List Value}, p + qs.length ≤ n1 → ParsRep ρ w p qs ds vs → ParsRep (fun b => (ρ b).map (capO n1)) w p qs ds vs
  | [], p, ds, vs, _, h => h
  | q :: qs, p, ds, vs, hp, ⟨d1, d2, v, vs', e1, e2, h1, h2⟩ => by
    rw [List.length_cons] at hp
    exact ⟨d1, d2, v, vs', e1, e2, par_tr (by omega) h1, pars_tr (by omega) h2⟩
section
variable (hk : ∀ b o, ρ b = some o → o ≠ .om → o ≠ .ext → ρ' b = some o) (hf : ∀ b, ¬ Ow ρ b → ¬ Ow ρ' b)
include hk hf
theorem out_tr {p : Nat} {q : PS} {ds : List DL} {v : Value} (h : OutRep ρ w p q ds v) : OutRep ρ' w p q ds v := by
  have hf' : Free w (Ow ρ) w (Ow ρ') := fun b _ h => ⟨rfl, hf b h⟩
  cases q with
  | mu s => obtain ⟨x, e, h⟩ := h; exact ⟨x, e, h.tr2 (fun b hb => ⟨rfl, hk b _ hb (by simp) (by simp)⟩) hf'⟩
  | bx ls =>
    have h' : BoxRep ρ w (0, 0, p) ls ds v := h
    exact BoxRep.tr2 h' (fun b hb => ⟨rfl, hk b _ hb (by simp) (by simp)⟩) (fun j b hb => ⟨rfl, hk b _ hb (by simp) (by simp)⟩) hf'
  | _ => exact h
theorem outs_tr : ∀ {qs : List PS} {p : Nat} {ds : List DL} {vs : List Value}, OutsRep ρ w p qs ds vs → OutsRep ρ' w p qs ds vs
  | [], p, ds, vs, h => h
  | q :: qs, p, ds, vs, ⟨d1, d2, v, vs', e1, e2, h1, h2⟩ => ⟨d1, d2, v, vs', e1, e2, out_tr hk hf h1, outs_tr h2⟩
theorem res_tr {n : Nat} {r : RS} {ds : List DL} {v : Value} (h : ResRep ρ w n r ds v) : ResRep ρ' w n r ds v := by
  have hf' : Free w (Ow ρ) w (Ow ρ') := fun b _ h => ⟨rfl, hf b h⟩
  cases r with
  | v s =>
    cases s with
    | dat t => obtain ⟨x, e, h⟩ := h; exact ⟨x, e, h.mono hf'⟩
    | arr e => obtain ⟨x, e, h⟩ := h; exact ⟨x, e, h.tr2 (fun b hb => ⟨rfl, hk b _ hb (by simp) (by simp)⟩) hf'⟩
    | omp k u => obtain ⟨x, e, h⟩ := h; exact ⟨x, e, h.tr2 (fun b hb => ⟨rfl, hk b _ hb (by simp) (by simp)⟩) hf'⟩
  | bx ls =>
    have h' : BoxRep ρ w (0, 1, n) ls ds v := h
    exact BoxRep.tr2 h' (fun b hb => ⟨rfl, hk b _ hb (by simp) (by simp)⟩) (fun j b hb => ⟨rfl, hk b _ hb (by simp) (by simp)⟩) hf'
theorem ress_tr : ∀ {rs : List RS} {n : Nat} {ds : List DL} {vs : List Value}, ResList ρ w n rs ds vs → ResList ρ' w n rs ds vs
  | [], n, ds, vs, h => h
  | r :: rs, n, ds, vs, ⟨d1, d2, v, vs', e1, e2, h1, h2⟩ => ⟨d1, d2, v, vs', e1, e2, res_tr hk hf h1, ress_tr h2⟩
theorem resAll_tr : ∀ {rs : List RS} {ds : List DL} {v : Value}, ResAll ρ w rs ds v → ResAll ρ' w rs ds v
  | [], ds, v, h => h
  | [r], ds, v, h => res_tr hk hf h
  | r :: r' :: rs, ds, v, ⟨us, e, h⟩ => ⟨us, e, ress_tr hk hf h⟩
end
theorem hof_ext {h : Hof} {hf : Nat} {f n : Nat} {cps : List PS} {cty : List Ty} {ptrs : Array Value} {g : El (outTy cty) → Tup h.as → Option (El h.b × El (outTy cty))} (hsh : SoundH P hf h) (hclo : CloOk P (capClo f n cps cty ptrs) h.as h.b g) (hb : allB bxs cps = true)
    {args : Array Value} {s : El (outTy cty)} {x : Tup h.sig.ins} {y : El (outTy h.sig.outs) × El (outTy cty)} (hy : h.f _ g s x = some y) (hlt : ∀ b, Ow ρ b → b < w.heap.size)
    (hp1 : ParsRep ρ w 0 h.sig.pars (unTup _ x) args.toList) (hp2 : ParsRep ρ w h.sig.pars.length cps (unOut cty s) ptrs.toList) (hfn : FnAt (capClo f n cps cty ptrs) h.sig.pars args.toList) :
    Calls P hf args w fun e w' => ∃ v ρ', e = .returned v ∧ Fr ρ w ρ' w' ∧ (∀ b, Ow ρ' b → b < w'.heap.size) ∧ ∃ d1 d2, unOut h.sig.outs y.1 ++ unOut cty y.2 = d1 ++ d2 ∧ ResAll ρ' w' h.sig.res d1 v ∧ OutsRep ρ' w' 0 (h.sig.pars ++ cps) d2 (args.toList ++ ptrs.toList) := by
  have owh : ∀ b, Ow (fun b => (ρ b).map (capO h.sig.pars.length)) b ↔ Ow ρ b := by
    intro b
    show (ρ b).map _ ≠ none ↔ ρ b ≠ none
    cases ρ b <;> simp
  have owc : ∀ b, Ow (fun b => (ρ b).map (reix h.sig.pars.length n)) b ↔ Ow ρ b := by
    intro b
    show (ρ b).map _ ≠ none ↔ ρ b ≠ none
    cases ρ b <;> simp
  have hK : CapK n cps cty ptrs s w (fun b => (fun b => (ρ b).map (capO h.sig.pars.length)) b = some .om) (Ow fun b => (ρ b).map (capO h.sig.pars.length)) := by
    refine ⟨hb, fun b => (ρ b).map (reix h.sig.pars.length n), fun b hO => (owc b).2 ((owh b).1 hO), fun b o e ho => ?_, ?_⟩
    · simp only [Option.map_eq_some_iff] at e
      obtain ⟨o1, e1, e2⟩ := e
      show (ρ b).map _ = _
      rw [e1, Option.map_some]
      cases o1 with
      | bx id =>
        by_cases hi : h.sig.pars.length ≤ id.2.2
        · simp [capO, hi]
        · simp [reix, hi] at e2; exact absurd e2.symm ho
      | at_ l =>
        cases l with
        | box id j =>
          by_cases hi : h.sig.pars.length ≤ id.2.2
          · simp [capO, hi]
          · simp [reix, hi] at e2; exact absurd e2.symm ho
        | _ => exact absurd e2.symm ho
      | _ => exact absurd e2.symm ho
    · exact boxes_tr (p := h.sig.pars.length) (p' := n) (m := 0) (fun k b e => ⟨rfl, by show (ρ b).map _ = _; rw [e]; simp [reix, Nat.add_sub_cancel_left, Nat.add_comm]⟩) (fun k j b e => ⟨rfl, by show (ρ b).map _ = _; rw [e]; simp [reix, Nat.add_sub_cancel_left, Nat.add_comm]⟩) (fun b _ hn => ⟨rfl, fun h => hn ((owc b).1 h)⟩) hb hp2
  refine (hsh.calls _ (capClo f n cps cty ptrs) g hclo (fun b => (ρ b).map (capO h.sig.pars.length)) w args s x y hy (fun b hO => hlt b ((owh b).1 hO)) (pars_tr (by omega) hp1) hfn hK).mono ?_
  rintro e w' ⟨v, ρ1, rfl, hfr, hlt', ⟨d1, d2, ey, hra, hou⟩, hb', ρc, c1, c2, c3⟩
  have fwd : ∀ b o, ρ1 b = some o → o ≠ .om → (fun b => match ρ1 b with | some .om => (ρc b).bind (backO n h.sig.pars.length) | x => x) b = some o := by
    intro b o e ho
    show (match ρ1 b with | some .om => (ρc b).bind (backO n h.sig.pars.length) | x => x) = some o
    rw [e]
    cases o <;> first | rfl | exact absurd rfl ho
  have sub : ∀ b, ¬ Ow ρ1 b → ¬ Ow (fun b => match ρ1 b with | some .om => (ρc b).bind (backO n h.sig.pars.length) | x => x) b := by
    intro b h h'
    have e : ρ1 b = none := Classical.byContradiction fun h2 => h h2
    refine h' ?_
    show (match ρ1 b with | some .om => (ρc b).bind (backO n _) | x => x) = none
    rw [e]
  refine ⟨v, fun b => match ρ1 b with | some .om => (ρc b).bind (backO n h.sig.pars.length) | x => x, rfl, ⟨hfr.os, hfr.tape, hfr.output, hfr.size, fun b hb hn => ?_, fun b hb => ?_⟩, fun b hO => hlt' b (Classical.byContradiction fun h => sub b h hO), d1, d2 ++ unOut cty y.2, by rw [ey, List.append_assoc], resAll_tr (fun b o e h1 _ => fwd b o e h1) sub hra, ?_⟩
  · obtain ⟨e1, e2⟩ := hfr.free b hb (fun h => hn ((owh b).1 h))
    exact ⟨e1, sub b e2⟩
  · obtain ⟨e1, e2⟩ := hfr.ext b (by show (ρ b).map _ = _; rw [hb]; rfl)
    exact ⟨e1, fwd b _ e2 (by simp)⟩
  · refine outs_app (outs_tr (fun b o e h1 _ => fwd b o e h1) sub hou) ?_
    rw [Nat.zero_add]
    refine (boxes_outs hb).2 (boxes_tr (p := n) (p' := h.sig.pars.length) (m := 0) (fun k b e => ⟨rfl, ?_⟩) (fun k j b e => ⟨rfl, ?_⟩) (fun b _ hn => ⟨rfl, fun h => hn (c1 b (Classical.byContradiction fun h2 => sub b h2 h))⟩) hb c3)
    · have h1 : ρ1 b = some .om := c2 b _ e (by simp)
      show (match ρ1 b with | some .om => (ρc b).bind (backO n h.sig.pars.length) | x => x) = _
      rw [h1, e]
      simp [backO, Nat.add_sub_cancel_left, Nat.add_comm]
    · have h1 : ρ1 b = some .om := c2 b _ e (by simp)
      show (match ρ1 b with | some .om => (ρc b).bind (backO n h.sig.pars.length) | x => x) = _
      rw [h1, e]
      simp [backO, Nat.add_sub_cancel_left, Nat.add_comm]
end
end Go.Proofs.Ytbgefphoochgcaa.FE
