/- FE, part 22: functions by contract: the way out. -/
import Derived.Test.YtbgefphoochgcaaFeU
namespace Go.Proofs.Ytbgefphoochgcaa.FE
open Go
set_option linter.unusedVariables false
set_option linter.unusedSimpArgs false
section
variable {Ω : Type} {C : CloRep Ω} {P : Program} {T : Tab} {N : Nat}
variable {rc i : Nat} {G : Ghost} {used used' : Id → Prop} {st ws : S Ω} {a : Act} {w w' : World} {acc rs : List Loc}

/-- Who owns behind the call what the function owned at its end. -/
def bk (xs : List Pln) (rl : Nat → Option Own) (rb : Nat → Option Id) (o : Own) : Option Own :=
  match o with
  | .at_ (.tmp p) => (match xs[p]? with | some (.m l _ _) => some (.at_ l) | _ => none)
  | .at_ (.box (a, c, p) j) => (match a, c with
    | 0, 0 => (match xs[p]? with | some (.b id _) => some (.at_ (.box id j)) | _ => none)
    | 0, 1 => (match rb p with | some id => some (.at_ (.box id j)) | none => none)
    | _, _ => none)
  | .at_ (.comp t n) => (match t with | 0 => rl n | _ => none)
  | .bx (a, c, p) => (match a, c with
    | 0, 0 => (match xs[p]? with | some (.b id _) => some (.bx id) | _ => none)
    | 0, 1 => (match rb p with | some id => some (.bx id) | none => none)
    | _, _ => none)
  | _ => none
def outρ (n : Nat) (ρ ρ' : Nat → Option Own) (xs : List Pln) (rl : Nat → Option Own) (rb : Nat → Option Id) : Nat → Option Own := fun b =>
  match ρ' b with
  | none => none
  | some .ext => if b < n then ρ b else none
  | some o => bk xs rl rb o
theorem bk_om {xs : List Pln} {rl : Nat → Option Own} {rb : Nat → Option Id} (hrl : ∀ n, rl n ≠ some .om) {o : Own} : bk xs rl rb o ≠ some .om := by
  unfold bk
  repeat' split
  all_goals first | exact hrl _ | simp
section
variable {n : Nat} {ρ ρ' : Nat → Option Own} {xs : List Pln} {rl : Nat → Option Own} {rb : Nat → Option Id}
theorem outρ_none {b : Nat} (h : ¬ Ow ρ' b) : ¬ Ow (outρ n ρ ρ' xs rl rb) b := by
  have h' : ρ' b = none := by
    cases e : ρ' b with
    | none => rfl
    | some o => exact absurd (show ρ' b ≠ none by rw [e]; simp) h
  show ¬ (outρ n ρ ρ' xs rl rb b ≠ none)
  simp [outρ, h']
theorem outρ_ext {b : Nat} (h : ρ' b = some .ext) (hb : b < n) : outρ n ρ ρ' xs rl rb b = ρ b := by simp [outρ, h, hb]
theorem outρ_own {b : Nat} {o : Own} (h : ρ' b = some o) (ho : o ≠ .ext) : outρ n ρ ρ' xs rl rb b = bk xs rl rb o := by
  cases o with
  | ext => exact absurd rfl ho
  | _ => simp [outρ, h]
end
/-- The variables that are handed over, behind the call. -/
theorem outs_box {ρ' : Nat → Option Own} : ∀ {qs : List PS} {xs : List Pln} {ds : List DL} {vs : List Value} {p : Nat}, PlnsOk false G w qs xs vs → OutsRep ρ' w' p qs ds vs → ∀ id ∈ plnI xs,
    ∃ k ls b c el, xs[k]? = some (.b id ls) ∧ G.β id = some (b, ls.length) ∧ ρ' b = some (.bx (0, 0, p + k)) ∧ w'.heap[b]? = some (.cells c el (0, 0)) ∧ c.size = ls.length
  | [], [], ds, vs, p, _, _, id, hi => by cases hi
  | [], _ :: _, ds, vs, p, h, _, id, hi => h.elim
  | _ :: _, [], ds, vs, p, h, _, id, hi => h.elim
  | q :: qs, x :: xs, ds, v :: vs, p, h, ho, id, hi => by
    obtain ⟨d1, d2, v', vs', rfl, ev, ho1, ho2⟩ := ho
    cases ev
    have tail : id ∈ plnI xs → ∃ k ls b c el, (x :: xs)[k]? = some (.b id ls) ∧ G.β id = some (b, ls.length) ∧ ρ' b = some (.bx (0, 0, p + k)) ∧ w'.heap[b]? = some (.cells c el (0, 0)) ∧ c.size = ls.length := by
      intro hi
      obtain ⟨k, ls, b, c, el, h1, h2, h3, h4, h5⟩ := outs_box h.2 ho2 id hi
      exact ⟨k + 1, ls, b, c, el, by simpa using h1, h2, by rw [show p + (k + 1) = p + 1 + k by omega]; exact h3, h4, h5⟩
    cases x with
    | b id' ls =>
      simp only [plnI, List.mem_cons] at hi
      rcases hi with rfl | hi
      · cases q with
        | bx ls0 =>
          obtain ⟨⟨rfl, h0, b, hb, hv⟩, _⟩ := h
          obtain ⟨b', c, el, hv', hρ, hh, hsz, _⟩ := ho1
          rw [hv] at hv'
          cases hv'
          exact ⟨0, _, b, c, el, rfl, hb, hρ, hh, hsz⟩
        | v s => cases s <;> exact h.1.elim
        | _ => exact h.1.elim
      · exact tail hi
    | _ => exact tail hi
  | _ :: _, _ :: _, ds, [], p, h, _, id, hi => h.elim
theorem heap_some {b : Nat} (h : b < w.heap.size) : ∃ o, w.heap[b]? = some o := ⟨_, Array.getElem?_eq_getElem h⟩
/-- The step of memory that a call is. -/
theorem out_step (hr : Rep C G N used st a w) {qs : List PS} {xs : List Pln} {ds : List DL} {vs : List Value} (hx : PlnsOk false G w qs xs vs) {ρ' : Nat → Option Own} (hfr : Fr (fun b => (G.ρ b).map (trOwn rc i 0 xs)) w ρ' w') (ho : OutsRep ρ' w' 0 qs ds vs)
    (hlt : ∀ b, Ow ρ' b → b < w'.heap.size) (rl : Nat → Option Own) (hrl : ∀ n, rl n ≠ some .om) (rb : Nat → Option Id) {L : Loc → Prop} (hL : ∀ l ∈ plnL rc i 0 xs, L l) : Step G w { G with ρ := outρ w.heap.size G.ρ ρ' xs rl rb } w' L := by
  have ext : ∀ {b o}, G.ρ b = some o → trOwn rc i 0 xs o = .ext → w'.heap[b]? = w.heap[b]? ∧ outρ w.heap.size G.ρ ρ' xs rl rb b = some o := by
    intro b o hb ht
    obtain ⟨h1, h2⟩ := hfr.ext b (by show (G.ρ b).map _ = _; rw [hb, Option.map_some, ht])
    exact ⟨h1, by rw [outρ_ext h2 (hr.lt b (show G.ρ b ≠ none by rw [hb]; simp)), hb]⟩
  refine ⟨fun _ _ h => h, fun _ _ h => h, hfr.os, hfr.tape, hfr.output, hfr.size, fun b hb hn => ?_, fun b l hb hl => ?_, fun b hb => ext hb (trOwn_rest ⟨fun _ e => (by cases e), fun _ e => (by cases e)⟩), fun b hb _ => ext hb (trOwn_rest ⟨fun _ e => (by cases e), fun _ e => (by cases e)⟩), fun b n id hb => ?_, fun b hb => ?_, fun b hb h _ => ?_⟩
  · have hn' : ¬ Ow (fun b => (G.ρ b).map (trOwn rc i 0 xs)) b := by
      intro h
      refine hn fun e => h ?_
      show (G.ρ b).map _ = none
      rw [e]; rfl
    obtain ⟨h1, h2⟩ := hfr.free b hb hn'
    exact ⟨h1, outρ_none h2⟩
  · exact ext hb (trOwn_out fun h => hl (hL l h))
  · obtain ⟨hρ, c0, el0, hh0, hs0⟩ := hr.box id b n hb
    by_cases hi : id ∈ plnI xs
    · obtain ⟨k, ls, b', c, el, h1, h2, h3, h4, h5⟩ := outs_box hx ho id hi
      rw [hb] at h2
      cases h2
      rw [Nat.zero_add] at h3
      refine ⟨?_, ⟨c, el, h4, h5⟩, fun j hj => ?_⟩
      · show outρ w.heap.size G.ρ ρ' xs rl rb b = _
        rw [outρ_own h3 (by simp)]
        simp [bk, h1]
      · have hge : ls.length ≤ j := by
          rcases Nat.lt_or_ge j ls.length with h | h
          · refine absurd (hL _ ?_) hj
            have : ∀ {xs : List Pln} {p k : Nat}, xs[k]? = some (.b id ls) → Loc.box id j ∈ plnL rc i p xs := by
              intro xs
              induction xs with
              | nil => intro p k h; simp at h
              | cons x r ih =>
                intro p k hk
                rw [plnL_cons, List.mem_append]
                cases k with
                | zero =>
                  simp at hk
                  subst hk
                  exact .inl (mem_boxL.2 ⟨by omega, by omega⟩)
                | succ k => exact .inr (ih (by simpa using hk))
            exact this h1
          · exact h
        have e1 : c[j]? = none := Array.getElem?_eq_none (by omega)
        have e2 : c0[j]? = none := Array.getElem?_eq_none (by omega)
        simp [World.cell?, h4, hh0, e1, e2]
    · obtain ⟨h1, h2⟩ := ext hρ (trOwn_bx hi)
      exact ⟨h2, ⟨c0, el0, h1.trans hh0, hs0⟩, fun j _ => by simp [World.cell?, h1]⟩
  · refine hlt b fun e => ?_
    exact outρ_none (n := w.heap.size) (ρ := G.ρ) (xs := xs) (rl := rl) (rb := rb) (fun h => h e) hb
  · have h' : outρ w.heap.size G.ρ ρ' xs rl rb b = some .om := h
    cases e : ρ' b with
    | none => simp [outρ, e] at h'
    | some o =>
      by_cases ho : o = .ext
      · subst ho
        rw [outρ_ext e hb] at h'
        exact h'
      · rw [outρ_own e ho] at h'
        exact absurd h' (bk_om hrl)
/-- The step, where all was but looked at. -/
def lookρ (n : Nat) (ρ : Nat → Option Own) : Nat → Option Own := fun b => if b < n then ρ b else none
theorem look_step (hr : Rep C G N used st a w) {ρ' : Nat → Option Own} (hfr : Fr (fun _ => none) w ρ' w') (L : Loc → Prop) : Step G w G w' L := by
  have same : ∀ {b}, b < w.heap.size → w'.heap[b]? = w.heap[b]? := fun hb => (hfr.free _ hb (fun h => h rfl)).1
  have own : ∀ {b o}, G.ρ b = some o → w'.heap[b]? = w.heap[b]? := fun hb => same (hr.lt _ (show G.ρ _ ≠ none by rw [hb]; simp))
  refine ⟨fun _ _ h => h, fun _ _ h => h, hfr.os, hfr.tape, hfr.output, hfr.size, fun b hb hn => ⟨same hb, hn⟩, fun b l hb _ => ⟨own hb, hb⟩, fun b hb => ⟨own hb, hb⟩, fun b hb _ => ⟨own hb, hb⟩, fun b n id hb => ?_, fun b hb => Nat.lt_of_lt_of_le (hr.lt b hb) hfr.size, fun _ _ h _ => h⟩
  obtain ⟨hρ, c0, el0, hh0, hs0⟩ := hr.box id b n hb
  exact ⟨hρ, ⟨c0, el0, (own hρ).trans hh0, hs0⟩, fun j _ => by simp [World.cell?, own hρ]⟩

/-! ### what comes back, fact by fact -/
def OutFact (VA : Loc → Value → Prop) (ρ : Nat → Option Own) (G : Ghost) (w : World) (q : PS) (x : Pln) (ds : List DL) (v : Value) : Prop :=
  match q, x with
  | .mu s, .m l _ s' => s' = s ∧ VA l v ∧ ∃ d, ds = [d] ∧ LSRep ρ w (.at_ l) s d v
  | .bx ls, .b id ls' => ls' = ls ∧ BoxRep ρ w id ls ds v ∧ ∃ b, G.β id = some (b, ls.length) ∧ v = .pointer (some ⟨b, 0, none⟩)
  | .v _, .t _ _ => ds = []
  | .v _, .d _ => ds = []
  | .ep _, .d _ => ds = []
  | .fn, .n => ds = []
  | _, _ => False
def OutFacts (VA : Loc → Value → Prop) (ρ : Nat → Option Own) (G : Ghost) (w : World) : List PS → List Pln → List DL → List Value → Prop
  | [], xs, ds, vs => xs = [] ∧ ds = [] ∧ vs = []
  | q :: qs, xs, ds, vs => ∃ x xs' d1 d2 v vs', xs = x :: xs' ∧ ds = d1 ++ d2 ∧ vs = v :: vs' ∧ OutFact VA ρ G w q x d1 v ∧ OutFacts VA ρ G w qs xs' d2 vs'
theorem outs_facts {VA VA' : Loc → Value → Prop} {ρ ρ' ρf : Nat → Option Own} {XS : List Pln} (hVA : ∀ (k : Nat) (l : Loc) (id : Id) (s : LS) (v : Value), XS[k]? = some (Pln.m l id s) → VA l v → VA' l v) (hf : ∀ b, ¬ Ow ρ' b → ¬ Ow ρf b)
    (h1 : ∀ (p : Nat) (l : Loc) (id : Id) (s : LS) (b : Nat), XS[p]? = some (Pln.m l id s) → ρ' b = some (.at_ (.tmp p)) → ρf b = some (.at_ l)) (h2 : ∀ (p : Nat) (id : Id) (ls : List LS) (b : Nat), XS[p]? = some (Pln.b id ls) → ρ' b = some (.bx (0, 0, p)) → ρf b = some (.bx id))
    (h3 : ∀ (p : Nat) (id : Id) (ls : List LS) (j b : Nat), XS[p]? = some (Pln.b id ls) → ρ' b = some (.at_ (.box (0, 0, p) j)) → ρf b = some (.at_ (.box id j))) :
    ∀ {qs : List PS} {xs : List Pln} {ds0 ds : List DL} {vs : List Value} {p : Nat}, PlnsRep VA false ρ w rc i p qs xs ds0 vs → PlnsOk false G w qs xs vs → OutsRep ρ' w' p qs ds vs → (∀ k, xs[k]? = XS[p + k]?) → OutFacts VA' ρf G w' qs xs ds vs
  | [], _, ds0, ds, vs, p, hp, hk, ho, hx => ⟨hp.1, ho.1, ho.2⟩
  | q :: qs, _, _, ds, _, p, ⟨x, xs, e1, e2, v, vs, rfl, rfl, rfl, hx, hxs⟩, hk, ho, hX => by
    obtain ⟨d1, d2, v', vs', rfl, ev, ho1, ho2⟩ := ho
    cases ev
    have hX0 : XS[p]? = some x := by have := hX 0; simpa using this.symm
    refine ⟨x, xs, d1, d2, v, vs, rfl, rfl, rfl, ?_, outs_facts hVA hf h1 h2 h3 hxs hk.2 ho2 (fun k => by have := hX (k + 1); rw [show p + 1 + k = p + (k + 1) by omega, ← this]; simp)⟩
    cases q with
    | v s =>
      cases x with
      | d d0 => exact ho1
      | t id s' => exact ho1
      | _ => cases s <;> exact hx.elim
    | mu s =>
      cases x with
      | m l id s' =>
        obtain ⟨rfl, hs, hva, _⟩ := hx
        obtain ⟨d, e, h⟩ := ho1
        exact ⟨rfl, hVA p l id _ v hX0 hva, d, e, h.tr (fun b => h1 p l id _ b hX0) hf⟩
      | _ => exact hx.elim
    | ep t =>
      cases x with
      | d d0 => exact ho1
      | _ => exact hx.elim
    | bx ls =>
      cases x with
      | b id ls' =>
        obtain ⟨rfl, h0, _⟩ := hx
        obtain ⟨⟨_, _, b, hb, hv⟩, _⟩ := hk
        exact ⟨rfl, BoxRep.tr ho1 (fun b => h2 p id _ b hX0) (fun j _ b => h3 p id _ j b hX0) hf, b, hb, hv⟩
      | _ => exact hx.elim
    | fn =>
      cases x with
      | n => exact ho1
      | _ => exact hx.elim
end
end Go.Proofs.Ytbgefphoochgcaa.FE
