/- FE, part 28: a function that takes a closure, with one of the function's own. -/
import Derived.Test.YtbgefphoochgcaaFeHof
namespace Go.Proofs.Ytbgefphoochgcaa.FE
open Go
set_option linter.unusedVariables false
set_option linter.unusedSimpArgs false
section
variable {Ω : Type} {C : CloRep Ω} {P : Program} {T : Tab} {N : Nat}
variable {rc i : Nat} {dst : Option Nat} {ty : Nat} {pos : String} {after : Array Edge} {guard : Option (Nat × Bool)}
variable {G G1 : Ghost} {used used2 : Id → Prop} {st ws : S Ω} {a : Act} {w w' : World} {acc rs : List Loc} {K : Act → World → Prop} {Q : Exit → Act → World → Prop} {ρ ρ' : Nat → Option Own}
theorem mkOut_un : ∀ {ts : List Ty} {ds : List DL} {y : El (outTy ts)}, mkOut ts ds = some y → unOut ts y = ds
  | [], [], y, h => rfl
  | [], _ :: _, y, h => by cases h
  | [t], [], y, h => by cases h
  | [t], [d], y, h => by
    obtain ⟨t', x⟩ := d
    have h' : cast? t' t x = some y := h
    obtain ⟨e, rfl⟩ := cast_eq h'
    cases e
    rfl
  | [t], _ :: _ :: _, y, h => by cases h
  | t :: s :: ts, [], y, h => by cases h
  | t :: s :: ts, d :: ds, y, h => by
    have h' : (cast? d.t t d.x).bind (fun x => (mkOut (s :: ts) ds).bind fun r => some (x, r)) = some y := h
    simp only [Option.bind_eq_some_iff] at h'
    obtain ⟨x, hx, r, hr, h'⟩ := h'
    cases h'
    obtain ⟨t', x'⟩ := d
    obtain ⟨e, rfl⟩ := cast_eq hx
    cases e
    have ih := mkOut_un hr
    simp only [unOut, ih]
theorem pars_split : ∀ {A B : List PS} {p : Nat} {ds : List DL} {vs : List Value}, ParsRep ρ w p (A ++ B) ds vs → ∃ d1 d2 v1 v2, ds = d1 ++ d2 ∧ vs = v1 ++ v2 ∧ ParsRep ρ w p A d1 v1 ∧ ParsRep ρ w (p + A.length) B d2 v2
  | [], B, p, ds, vs, h => ⟨[], ds, [], vs, rfl, rfl, ⟨rfl, rfl⟩, h⟩
  | q :: A, B, p, ds, vs, ⟨d1, d2, v, vs', e1, e2, h1, h2⟩ => by
    obtain ⟨c1, c2, u1, u2, rfl, rfl, k1, k2⟩ := pars_split h2
    refine ⟨d1 ++ c1, c2, v :: u1, u2, by rw [e1, List.append_assoc], by rw [e2]; rfl, ⟨d1, c1, v, u1, rfl, rfl, h1, k1⟩, ?_⟩
    rw [List.length_cons, show p + (A.length + 1) = p + 1 + A.length by omega]
    exact k2
theorem pars_len : ∀ {A : List PS} {p : Nat} {ds : List DL} {vs : List Value}, ParsRep ρ w p A ds vs → vs.length = A.length
  | [], p, ds, vs, h => by rw [h.2]; rfl
  | q :: A, p, ds, vs, ⟨d1, d2, v, vs', e1, e2, h1, h2⟩ => by rw [e2, List.length_cons, List.length_cons, pars_len h2]
theorem pars_app : ∀ {A B : List PS} {p : Nat} {d1 d2 : List DL} {v1 v2 : List Value}, ParsRep ρ w p A d1 v1 → ParsRep ρ w (p + A.length) B d2 v2 → ParsRep ρ w p (A ++ B) (d1 ++ d2) (v1 ++ v2)
  | [], B, p, d1, d2, v1, v2, h, k => by obtain ⟨rfl, rfl⟩ := h; exact k
  | q :: A, B, p, d1, d2, v1, v2, ⟨e1, e2, v, vs, h1, h2, h3, h4⟩, k => by
    refine ⟨e1, e2 ++ d2, v, vs ++ v2, by rw [h1, List.append_assoc], by rw [h2]; rfl, h3, pars_app h4 ?_⟩
    rw [List.length_cons, show p + (A.length + 1) = p + 1 + A.length by omega] at k
    exact k
theorem outs_app : ∀ {A B : List PS} {p : Nat} {d1 d2 : List DL} {v1 v2 : List Value}, OutsRep ρ w p A d1 v1 → OutsRep ρ w (p + A.length) B d2 v2 → OutsRep ρ w p (A ++ B) (d1 ++ d2) (v1 ++ v2)
  | [], B, p, d1, d2, v1, v2, h, k => by obtain ⟨rfl, rfl⟩ := h; exact k
  | q :: A, B, p, d1, d2, v1, v2, ⟨e1, e2, v, vs, h1, h2, h3, h4⟩, k => by
    refine ⟨e1, e2 ++ d2, v, vs ++ v2, by rw [h1, List.append_assoc], by rw [h2]; rfl, h3, outs_app h4 ?_⟩
    rw [List.length_cons, show p + (A.length + 1) = p + 1 + A.length by omega] at k
    exact k
theorem outs_split : ∀ {A B : List PS} {p : Nat} {ds : List DL} {vs : List Value}, OutsRep ρ w p (A ++ B) ds vs → ∃ d1 d2 v1 v2, ds = d1 ++ d2 ∧ vs = v1 ++ v2 ∧ OutsRep ρ w p A d1 v1 ∧ OutsRep ρ w (p + A.length) B d2 v2
  | [], B, p, ds, vs, h => ⟨[], ds, [], vs, rfl, rfl, ⟨rfl, rfl⟩, h⟩
  | q :: A, B, p, ds, vs, ⟨d1, d2, v, vs', e1, e2, h1, h2⟩ => by
    obtain ⟨c1, c2, u1, u2, rfl, rfl, k1, k2⟩ := outs_split h2
    refine ⟨d1 ++ c1, c2, v :: u1, u2, by rw [e1, List.append_assoc], by rw [e2]; rfl, ⟨d1, c1, v, u1, rfl, rfl, h1, k1⟩, ?_⟩
    rw [List.length_cons, show p + (A.length + 1) = p + 1 + A.length by omega]
    exact k2
theorem outs_len : ∀ {A : List PS} {p : Nat} {ds : List DL} {vs : List Value}, OutsRep ρ w p A ds vs → vs.length = A.length
  | [], p, ds, vs, h => by rw [h.2]; rfl
  | q :: A, p, ds, vs, ⟨d1, d2, v, vs', e1, e2, h1, h2⟩ => by rw [e2, List.length_cons, List.length_cons, outs_len h2]
theorem par_dlen {p : Nat} {q : PS} {ds : List DL} {v : Value} (h : ParRep ρ w p q ds v) : ds.length = q.tys.length := by
  cases q with
  | v s => cases s <;> (obtain ⟨x, e, _⟩ := h; rw [e]; rfl)
  | mu s => obtain ⟨x, e, _⟩ := h; rw [e]; rfl
  | ep t => obtain ⟨x, _, _, _, e, _⟩ := h; rw [e]; rfl
  | bx ls => obtain ⟨b, c, el, _, _, _, _, h, _⟩ := h; rw [h]; simp [PS.tys]
  | fn => have h : ds = [] := h; rw [h]; rfl
theorem pars_dlen : ∀ {A : List PS} {p : Nat} {ds : List DL} {vs : List Value}, ParsRep ρ w p A ds vs → ds.length = (A.flatMap PS.tys).length
  | [], p, ds, vs, h => by rw [h.1]; rfl
  | q :: A, p, ds, vs, ⟨d1, d2, v, vs', e1, e2, h1, h2⟩ => by rw [e1, List.length_append, List.flatMap_cons, List.length_append, par_dlen h1, pars_dlen h2]
theorem unTup_len : ∀ {ts : List Ty} {x : Tup ts}, (unTup ts x).length = ts.length
  | [], x => rfl
  | t :: ts, x => by simp only [unTup, List.length_cons]; rw [unTup_len]

/-! ### from world to world -/
theorem ArrRep.tr2 {o o' : Own} {e : Ty} {xs : List (El e)} {v : Value} (h : ArrRep ρ w o e xs v) (ho : ∀ b, ρ b = some o → w'.heap[b]? = w.heap[b]? ∧ ρ' b = some o') (hf : Free w (Ow ρ) w' (Ow ρ')) : ArrRep ρ' w' o' e xs v := by
  rcases h with h | ⟨b, off, cap, c, el, hv, hc, hb, hh, hsz, hx⟩
  · exact .inl h
  · obtain ⟨e1, e2⟩ := ho b hb
    exact .inr ⟨b, off, cap, c, el, hv, hc, e2, e1.trans hh, hsz, fun j hj => let ⟨vs, hr, hat⟩ := hx j hj; ⟨vs, hr.mono hf, hat⟩⟩
theorem MapRep.tr2 {o o' : Own} {k u : Ty} {m : List (El k × El u)} {v : Value} {bs : List Nat} (h : MapRep ρ w o k u m v bs) (ho : ∀ b, ρ b = some o → w'.heap[b]? = w.heap[b]? ∧ ρ' b = some o') (hf : Free w (Ow ρ) w' (Ow ρ')) : MapRep ρ' w' o' k u m v bs := by
  obtain ⟨b, es, clock, hu, hb, hh, hsz, hbs, hx, hr⟩ := h
  obtain ⟨e1, e2⟩ := ho b hb
  exact ⟨b, es, clock, hu, e2, e1.trans hh, hsz, hbs, fun j hj => let ⟨en, he, h1, h2⟩ := hx j hj; ⟨en, he, h1.mono hf, h2.mono hf⟩, hr⟩
theorem LSRep.tr2 {o o' : Own} {s : LS} {d : DL} {v : Value} (h : LSRep ρ w o s d v) (ho : ∀ b, ρ b = some o → w'.heap[b]? = w.heap[b]? ∧ ρ' b = some o') (hf : Free w (Ow ρ) w' (Ow ρ')) : LSRep ρ' w' o' s d v := by
  cases s with
  | dat t => obtain ⟨x, e, h⟩ := h; exact ⟨x, e, h.mono hf⟩
  | arr e => obtain ⟨x, e, h⟩ := h; exact ⟨x, e, h.tr2 ho hf⟩
  | omp k u => obtain ⟨x, bs, e, h⟩ := h; exact ⟨x, bs, e, h.tr2 ho hf⟩
theorem BoxRep.tr2 {id id' : Id} {ls : List LS} {ds : List DL} {v : Value} (h : BoxRep ρ w id ls ds v) (hb : ∀ b, ρ b = some (.bx id) → w'.heap[b]? = w.heap[b]? ∧ ρ' b = some (.bx id')) (ho : ∀ j b, ρ b = some (.at_ (.box id j)) → w'.heap[b]? = w.heap[b]? ∧ ρ' b = some (.at_ (.box id' j))) (hf : Free w (Ow ρ) w' (Ow ρ')) : BoxRep ρ' w' id' ls ds v := by
  obtain ⟨b, c, el, hv, h1, h2, h3, h4, h5⟩ := h
  obtain ⟨e1, e2⟩ := hb b h1
  exact ⟨b, c, el, hv, e2, e1.trans h2, h3, h4, fun j s d u k1 k2 k3 => (h5 j s d u k1 k2 k3).tr2 (ho j) hf⟩
def bxs : PS → Bool | .bx _ => true | _ => false
theorem boxes_tr {p p' : Nat} (hb : ∀ (k b : Nat), ρ b = some (.bx (0, 0, p + k)) → w'.heap[b]? = w.heap[b]? ∧ ρ' b = some (.bx (0, 0, p' + k)))
    (ho : ∀ (k j b : Nat), ρ b = some (.at_ (.box (0, 0, p + k) j)) → w'.heap[b]? = w.heap[b]? ∧ ρ' b = some (.at_ (.box (0, 0, p' + k) j))) (hf : Free w (Ow ρ) w' (Ow ρ')) : ∀ {qs : List PS} {m : Nat} {ds : List DL} {vs : List Value}, allB bxs qs = true → ParsRep ρ w (p + m) qs ds vs → ParsRep ρ' w' (p' + m) qs ds vs
  | [], m, ds, vs, _, h => h
  | q :: qs, m, ds, vs, hq, ⟨d1, d2, v, vs', e1, e2, h1, h2⟩ => by
    obtain ⟨hq1, hq2⟩ := allB_tail hq
    refine ⟨d1, d2, v, vs', e1, e2, ?_, ?_⟩
    · cases q with
      | bx ls =>
        have h1' : BoxRep ρ w (0, 0, p + m) ls d1 v := h1
        exact BoxRep.tr2 h1' (hb m) (ho m) hf
      | _ => cases hq1
    · have := boxes_tr hb ho hf (m := m + 1) hq2 (by rw [show p + (m + 1) = p + m + 1 by omega]; exact h2)
      rw [show p' + m + 1 = p' + (m + 1) by omega]
      exact this
theorem boxes_outs : ∀ {qs : List PS} {p : Nat} {ds : List DL} {vs : List Value}, allB bxs qs = true → (OutsRep ρ w p qs ds vs ↔ ParsRep ρ w p qs ds vs)
  | [], p, ds, vs, _ => Iff.rfl
  | q :: qs, p, ds, vs, hq => by
    obtain ⟨hq1, hq2⟩ := allB_tail hq
    cases q with
    | bx ls =>
      constructor
      · rintro ⟨d1, d2, v, vs', e1, e2, h1, h2⟩
        exact ⟨d1, d2, v, vs', e1, e2, h1, (boxes_outs hq2).1 h2⟩
      · rintro ⟨d1, d2, v, vs', e1, e2, h1, h2⟩
        exact ⟨d1, d2, v, vs', e1, e2, h1, (boxes_outs hq2).2 h2⟩
    | _ => cases hq1
theorem dats_tr (hf : Free w (Ow ρ) w' (Ow ρ')) : ∀ {as : List Ty} {p p' : Nat} {ds : List DL} {vs : List Value}, ParsRep ρ w p (as.map fun t => PS.v (.dat t)) ds vs → ParsRep ρ' w' p' (as.map fun t => PS.v (.dat t)) ds vs
  | [], p, p', ds, vs, h => h
  | t :: as, p, p', ds, vs, ⟨d1, d2, v, vs', e1, e2, ⟨x, e3, h1⟩, h2⟩ => ⟨d1, d2, v, vs', e1, e2, ⟨x, e3, h1.mono hf⟩, dats_tr hf h2⟩
theorem dats_outs : ∀ {as : List Ty} {p : Nat} {ds : List DL} {vs : List Value}, OutsRep ρ w p (as.map fun t => PS.v (.dat t)) ds vs → ds = []
  | [], p, ds, vs, h => h.1
  | t :: as, p, ds, vs, ⟨d1, d2, v, vs', e1, e2, h1, h2⟩ => by
    have h1 : d1 = [] := h1
    rw [e1, h1, dats_outs h2]; rfl
theorem datsB_eq : ∀ {qs : List PS} {as : List Ty}, datsB qs as = true → qs = as.map fun t => PS.v (.dat t)
  | [], [], _ => rfl
  | .v (.dat t) :: qs, t' :: ts, h => by
    simp only [datsB] at h
    split at h
    · rename_i e
      obtain rfl := Ty.eq_of_beq e
      rw [List.map_cons, ← datsB_eq h]
    · cases h
  | [], _ :: _, h => by cases h
  | .v (.dat _) :: _, [], h => by cases h
  | .v (.arr _) :: _, _, h => by cases h
  | .v (.omp _ _) :: _, _, h => by cases h
  | .mu _ :: _, _, h => by cases h
  | .ep _ :: _, _, h => by cases h
  | .bx _ :: _, _, h => by cases h
  | .fn :: _, _, h => by cases h
theorem resB_eq {rs : List RS} {b : Ty} (h : resB rs b = true) : rs = [.v (.dat b)] := by
  unfold resB at h
  split at h
  · rw [Ty.eq_of_beq h]
  · cases h

/-! ### a closure's variables are its memory -/
def CapK (n : Nat) (cps : List PS) (cty : List Ty) (ptrs : Array Value) (s : El (outTy cty)) (w : World) (M O : Nat → Prop) : Prop :=
  allB bxs cps = true ∧ ∃ ρc : Nat → Option Own, (∀ b, O b → Ow ρc b) ∧ (∀ b o, ρc b = some o → o ≠ .ext → M b) ∧ ParsRep ρc w n cps (unOut cty s) ptrs.toList
open Classical in
theorem CapK.stable {n : Nat} {cps : List PS} {cty : List Ty} {ptrs : Array Value} {s : El (outTy cty)} {M M' O O' : Nat → Prop} (h : CapK n cps cty ptrs s w M O) (h1 : ∀ b, M b → w'.heap[b]? = w.heap[b]?) (h2 : Free w O w' O') (h3 : ∀ b, M b → M' b) : CapK n cps cty ptrs s w' M' O' := by
  obtain ⟨hb, ρc, c1, c2, c3⟩ := h
  refine ⟨hb, fun b => match ρc b with | some o => some o | none => if O' b then some .ext else none, fun b hO => ?_, fun b o h ho => ?_, ?_⟩
  · show (match ρc b with | some o => some o | none => if O' b then some Own.ext else none) ≠ none
    cases ρc b with
    | none => simp [hO]
    | some o => simp
  · cases hc : ρc b with
    | none =>
      simp only [hc] at h
      split at h
      · cases h; exact absurd rfl ho
      · cases h
    | some o' => simp only [hc] at h; cases h; exact h3 b (c2 b _ hc ho)
  · refine boxes_tr (p := n) (p' := n) (m := 0) (fun k b e => ⟨h1 b (c2 b _ e (by simp)), by simp only [e]⟩) (fun k j b e => ⟨h1 b (c2 b _ e (by simp)), by simp only [e]⟩) (fun b hb hn => ?_) hb c3
    have hO : ¬ O b := fun h => hn (c1 b h)
    obtain ⟨e1, e2⟩ := h2 b hb hO
    refine ⟨e1, fun h => h ?_⟩
    have : ρc b = none := Classical.byContradiction fun h => hn h
    show (match ρc b with | some o => some o | none => if O' b then some Own.ext else none) = none
    rw [this]
    simp [e2]
def capClo (f n : Nat) (cps : List PS) (cty : List Ty) (ptrs : Array Value) : CloRep (El (outTy cty)) :=
  ⟨.func (.func f) #[] ptrs, ⟨_, _, _, rfl⟩, CapK n cps cty ptrs, fun h _ h1 h2 h3 => CapK.stable h h1 h2 h3⟩
end
end Go.Proofs.Ytbgefphoochgcaa.FE
