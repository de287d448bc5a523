/- FE, part 21: functions by contract: who owns what, within and behind. -/
import Derived.Test.YtbgefphoochgcaaFeT
namespace Go.Proofs.Ytbgefphoochgcaa.FE
open Go
set_option linter.unusedVariables false
set_option linter.unusedSimpArgs false
section
variable {Ω : Type} {C : CloRep Ω} {P : Program} {T : Tab} {N : Nat}
variable {rc i : Nat} {G : Ghost} {used used' : Id → Prop} {st ws : S Ω} {a : Act} {w w' : World} {acc rs : List Loc}

theorem ArrRep.tr {ρ ρ' : Nat → Option Own} {o o' : Own} {e : Ty} {xs : List (El e)} {v : Value} (h : ArrRep ρ w o e xs v) (ho : ∀ b, ρ b = some o → ρ' b = some o') (hf : ∀ b, ¬ Ow ρ b → ¬ Ow ρ' b) : ArrRep ρ' w o' e xs v := by
  rcases h with h | ⟨b, off, cap, c, el, hv, hc, hb, hh, hsz, hx⟩
  · exact .inl h
  · exact .inr ⟨b, off, cap, c, el, hv, hc, ho b hb, hh, hsz, fun j hj => let ⟨vs, h1, h2⟩ := hx j hj; ⟨vs, h1.mono fun b _ h => ⟨rfl, hf b h⟩, h2⟩⟩
theorem MapRep.tr {ρ ρ' : Nat → Option Own} {o o' : Own} {k u : Ty} {m : List (El k × El u)} {v : Value} {bs : List Nat} (h : MapRep ρ w o k u m v bs) (ho : ∀ b, ρ b = some o → ρ' b = some o') (hf : ∀ b, ¬ Ow ρ b → ¬ Ow ρ' b) : MapRep ρ' w o' k u m v bs := by
  obtain ⟨b, es, clock, hu, hb, hh, hsz, hbs, hx, hr⟩ := h
  exact ⟨b, es, clock, hu, ho b hb, hh, hsz, hbs, fun j hj => let ⟨en, he, h1, h2⟩ := hx j hj; ⟨en, he, h1.mono fun b _ h => ⟨rfl, hf b h⟩, h2.mono fun b _ h => ⟨rfl, hf b h⟩⟩, hr⟩
theorem LSRep.tr {ρ ρ' : Nat → Option Own} {o o' : Own} {s : LS} {d : DL} {v : Value} (h : LSRep ρ w o s d v) (ho : ∀ b, ρ b = some o → ρ' b = some o') (hf : ∀ b, ¬ Ow ρ b → ¬ Ow ρ' b) : LSRep ρ' w o' s d v := by
  cases s with
  | dat t => obtain ⟨x, e, h⟩ := h; exact ⟨x, e, h.mono fun b _ h => ⟨rfl, hf b h⟩⟩
  | arr e => obtain ⟨xs, e, h⟩ := h; exact ⟨xs, e, h.tr ho hf⟩
  | omp k u => obtain ⟨m, bs, e, h⟩ := h; exact ⟨m, bs, e, h.tr ho hf⟩
theorem BoxRep.tr {ρ ρ' : Nat → Option Own} {id id' : Id} {ls : List LS} {ds : List DL} {v : Value} (h : BoxRep ρ w id ls ds v) (hb : ∀ b, ρ b = some (.bx id) → ρ' b = some (.bx id')) (ho : ∀ j, j < ls.length → ∀ b, ρ b = some (.at_ (.box id j)) → ρ' b = some (.at_ (.box id' j))) (hf : ∀ b, ¬ Ow ρ b → ¬ Ow ρ' b) : BoxRep ρ' w id' ls ds v := by
  obtain ⟨b, c, el, hv, hρ, hh, hsz, hl, hx⟩ := h
  refine ⟨b, c, el, hv, hb b hρ, hh, hsz, hl, fun j s d u h1 h2 h3 => (hx j s d u h1 h2 h3).tr (ho j ?_) hf⟩
  exact (List.getElem?_eq_some_iff.1 h1).1

/-! ### the way in -/
def hit (rc i p : Nat) (x : Pln) (o : Own) : Option Own :=
  match x, o with
  | .t _ _, .at_ l => if locB (goL rc i p) l then some (.at_ (.tmp p)) else none
  | .m l' _ _, .at_ l => if locB l' l then some (.at_ (.tmp p)) else none
  | .b id ls, .at_ l => (match l with | .box id' j => if idB id id' && Nat.blt j ls.length then some (.at_ (.box (0, 0, p) j)) else none | _ => none)
  | .b id _, .bx id' => if idB id id' then some (.bx (0, 0, p)) else none
  | _, _ => none
def trOwn (rc i : Nat) : Nat → List Pln → Own → Own
  | _, [], _ => .ext
  | p, x :: r, o => match hit rc i p x o with | some o' => o' | none => trOwn rc i (p + 1) r o
def pln1 (rc i p : Nat) (x : Pln) : List Loc := match x with | .d _ => [] | .n => [] | .t _ _ => [goL rc i p] | .m l _ _ => [l] | .b id ls => boxL id 0 ls.length
theorem plnL_cons (p : Nat) (x : Pln) (r : List Pln) : plnL rc i p (x :: r) = pln1 rc i p x ++ plnL rc i (p + 1) r := by cases x <;> rfl
def plnI : List Pln → List Id
  | [] => []
  | .b id _ :: r => id :: plnI r
  | _ :: r => plnI r
theorem mem_boxL {id : Id} : ∀ {n j k : Nat}, Loc.box id k ∈ boxL id j n ↔ j ≤ k ∧ k < j + n
  | 0, j, k => by simp only [boxL, List.not_mem_nil, false_iff]; omega
  | n + 1, j, k => by
    simp only [boxL, List.mem_cons, mem_boxL (n := n), Loc.box.injEq, true_and]
    omega
theorem boxL_id {id : Id} : ∀ {n j : Nat} {l : Loc}, l ∈ boxL id j n → ∃ k, l = .box id k
  | 0, j, l, h => by cases h
  | n + 1, j, l, h => by
    rcases List.mem_cons.1 h with h | h
    · exact ⟨j, h⟩
    · exact boxL_id h
theorem hit_loc {p : Nat} {x : Pln} {l : Loc} {o : Own} (h : hit rc i p x (.at_ l) = some o) : l ∈ pln1 rc i p x := by
  cases x with
  | d d => cases h
  | n => cases h
  | t id s =>
    simp only [hit] at h
    split at h
    · rename_i e
      simp [pln1, locB_iff.1 e]
    · cases h
  | m l' id s =>
    simp only [hit] at h
    split at h
    · rename_i e
      simp [pln1, locB_iff.1 e]
    · cases h
  | b id ls =>
    simp only [hit] at h
    split at h
    · split at h
      · rename_i e
        simp only [Bool.and_eq_true] at e
        obtain rfl := idB_iff.1 e.1
        exact mem_boxL.2 ⟨by omega, by have := Nat.le_of_ble_eq_true e.2; omega⟩
      · cases h
    · cases h
theorem distL_split : ∀ {A B : List Loc}, distL (A ++ B) = true → (∀ l ∈ A, l ∈ B → False) ∧ distL B = true
  | [], B, h => ⟨fun l hl => (by cases hl), h⟩
  | a :: A, B, h => by
    have h' : (match inL a (A ++ B) with | true => false | false => distL (A ++ B)) = true := h
    split at h'
    · cases h'
    · rename_i hn
      obtain ⟨h1, h2⟩ := distL_split h'
      refine ⟨fun l hl hB => ?_, h2⟩
      rcases List.mem_cons.1 hl with rfl | hl
      · have : inL l (A ++ B) = true := inL_iff.2 (List.mem_append.2 (.inr hB))
        rw [hn] at this; cases this
      · exact h1 l hl hB
theorem trOwn_out : ∀ {xs : List Pln} {p : Nat} {l : Loc}, l ∉ plnL rc i p xs → trOwn rc i p xs (.at_ l) = .ext
  | [], _, _, _ => rfl
  | x :: r, p, l, h => by
    rw [plnL_cons, List.mem_append, not_or] at h
    unfold trOwn
    split
    · rename_i o e
      exact absurd (hit_loc e) h.1
    · exact trOwn_out h.2
theorem trOwn_bx : ∀ {xs : List Pln} {p : Nat} {id : Id}, id ∉ plnI xs → trOwn rc i p xs (.bx id) = .ext
  | [], _, _, _ => rfl
  | x :: r, p, id, h => by
    unfold trOwn
    have hh : hit rc i p x (.bx id) = none ∧ id ∉ plnI r := by
      cases x with
      | b id' ls =>
        simp only [plnI, List.mem_cons, not_or] at h
        refine ⟨?_, h.2⟩
        simp only [hit]
        rw [if_neg]
        intro e
        exact h.1 (idB_iff.1 e).symm
      | _ => exact ⟨rfl, h⟩
    rw [hh.1]
    exact trOwn_bx hh.2
theorem trOwn_rest {o : Own} (h : (∀ l, o ≠ .at_ l) ∧ ∀ id, o ≠ .bx id) : ∀ {xs : List Pln} {p : Nat}, trOwn rc i p xs o = .ext
  | [], _ => rfl
  | x :: r, p => by
    unfold trOwn
    have : hit rc i p x o = none := by
      cases o with
      | at_ l => exact absurd rfl (h.1 l)
      | bx id => exact absurd rfl (h.2 id)
      | _ => cases x <;> rfl
    rw [this]
    exact trOwn_rest h
theorem trOwn_ne {o : Own} : ∀ {xs : List Pln} {p : Nat}, trOwn rc i p xs o ≠ .om
  | [], _ => by simp [trOwn]
  | x :: r, p => by
    unfold trOwn
    split
    · rename_i o' e
      rintro rfl
      unfold hit at e
      repeat' split at e
      all_goals cases e
    · exact trOwn_ne
theorem plnI_loc {VA : Loc → Value → Prop} {sc : Bool} {ρ : Nat → Option Own} : ∀ {qs : List PS} {xs : List Pln} {ds : List DL} {vs : List Value} {p : Nat}, PlnsRep VA sc ρ w rc i p qs xs ds vs → ∀ id ∈ plnI xs, Loc.box id 0 ∈ plnL rc i p xs
  | [], xs, ds, vs, p, h, id, hi => by obtain ⟨rfl, _⟩ := h; cases hi
  | q :: qs, _, _, _, p, ⟨x, xs, d1, d2, v, vs, rfl, rfl, rfl, hx, hxs⟩, id, hi => by
    rw [plnL_cons, List.mem_append]
    cases x with
    | b id' ls =>
      simp only [plnI, List.mem_cons] at hi
      rcases hi with rfl | hi
      · refine .inl (mem_boxL.2 ⟨by omega, ?_⟩)
        cases q with
        | bx ls0 => obtain ⟨rfl, h0, _⟩ := hx; omega
        | v s => cases s <;> first | exact hx.elim
        | _ => exact hx.elim
      · exact .inr (plnI_loc hxs id hi)
    | _ => exact .inr (plnI_loc hxs id hi)
/-- Within: the parameters. -/
theorem pars_in {VA : Loc → Value → Prop} {ρ ρe : Nat → Option Own} (hf : ∀ b, ¬ Ow ρ b → ¬ Ow ρe b) : ∀ {qs : List PS} {xs : List Pln} {ds : List DL} {vs : List Value} {p : Nat}, PlnsRep VA false ρ w rc i p qs xs ds vs → distL (plnL rc i p xs) = true →
    (∀ l ∈ plnL rc i p xs, ∀ b, ρ b = some (.at_ l) → ρe b = some (trOwn rc i p xs (.at_ l))) → (∀ id ∈ plnI xs, ∀ b, ρ b = some (.bx id) → ρe b = some (trOwn rc i p xs (.bx id))) → ParsRep ρe w p qs ds vs
  | [], xs, ds, vs, p, h, _, _, _ => h.2
  | q :: qs, _, _, _, p, ⟨x, xs, d1, d2, v, vs, rfl, rfl, rfl, hx, hxs⟩, hd, h1, h2 => by
    rw [plnL_cons] at hd
    obtain ⟨hd1, hd2⟩ := distL_split hd
    refine ⟨d1, d2, v, vs, rfl, rfl, ?_, pars_in hf hxs hd2 (fun l hl b hb => ?_) (fun id hi b hb => ?_)⟩
    · have own : ∀ {l : Loc} {s : LS} {d : DL}, l ∈ pln1 rc i p x → hit rc i p x (.at_ l) = some (.at_ (.tmp p)) → LSRep ρ w (.at_ l) s d v → LSRep ρe w (.at_ (.tmp p)) s d v := by
        intro l s d hl hh h
        refine h.tr (fun b hb => ?_) hf
        have := h1 l (by rw [plnL_cons]; exact List.mem_append.2 (.inl hl)) b hb
        rw [this]
        simp only [trOwn, hh]
      have val : ∀ {s : LS}, datS s = false → (∃ d, d1 = [d] ∧ LSRep ρe w (.at_ (.tmp p)) s d v) → ParRep ρe w p (.v s) d1 v := by
        intro s hs h
        cases s with
        | dat t => cases hs
        | _ => exact h
      cases q with
      | v s =>
        cases x with
        | d d0 =>
          cases s with
          | dat t => obtain ⟨y, e, hy⟩ := hx; exact ⟨y, e, RepV.mono (fun b _ h => ⟨rfl, hf b h⟩) hy⟩
          | _ => exact hx.elim
        | t id s' =>
          have hx' : datS s = false ∧ ∃ d, d1 = [d] ∧ LSRep ρ w (.at_ (goL rc i p)) s d v := by
            cases s <;> first | exact hx | (obtain ⟨h, _⟩ := hx; cases h)
          obtain ⟨hs, d, e, h⟩ := hx'
          exact val hs ⟨d, e, own (l := goL rc i p) (by simp [pln1]) (by simp [hit, locB_self]) h⟩
        | _ => cases s <;> exact hx.elim
      | mu s =>
        cases x with
        | m l id s' =>
          obtain ⟨rfl, hs, _, d, e, h⟩ := hx
          exact ⟨d, e, own (l := l) (by simp [pln1]) (by simp [hit, locB_self]) h⟩
        | _ => exact hx.elim
      | ep t =>
        cases x with
        | d d0 =>
          obtain ⟨y, b, off, l, e, hv, hb, hr, hat⟩ := hx
          exact ⟨y, b, off, l, e, hv, hf b hb, hr.mono fun b _ h => ⟨rfl, hf b h⟩, hat⟩
        | _ => exact hx.elim
      | bx ls =>
        cases x with
        | b id ls' =>
          obtain ⟨rfl, h0, hb⟩ := hx
          refine hb.tr (fun b hb => ?_) (fun j hj b hb => ?_) hf
          · rw [h2 id (by simp [plnI]) b hb]
            simp [trOwn, hit, idB_iff.2 rfl]
          · rw [h1 (.box id j) (by rw [plnL_cons]; exact List.mem_append.2 (.inl (mem_boxL.2 ⟨by omega, by omega⟩))) b hb]
            have hb' : Nat.blt j ls'.length = true := Nat.ble_eq_true_of_le hj
            simp [trOwn, hit, idB_iff.2 rfl, hb']
        | _ => exact hx.elim
      | fn =>
        cases x with
        | n => exact hx
        | _ => exact hx.elim
    · rw [h1 l (by rw [plnL_cons]; exact List.mem_append.2 (.inr hl)) b hb]
      simp only [trOwn]
      split
      · rename_i o e
        exact (hd1 l (hit_loc e) hl).elim
      · rfl
    · have hi' : id ∈ plnI (x :: xs) := by cases x <;> simp [plnI, hi]
      rw [h2 id hi' b hb]
      simp only [trOwn]
      split
      · rename_i o e
        exfalso
        cases x with
        | b id' ls =>
          simp only [hit] at e
          split at e
          · rename_i e'
            obtain rfl := idB_iff.1 e'
            refine hd1 (.box id' 0) (mem_boxL.2 ⟨by omega, ?_⟩) (plnI_loc hxs _ hi)
            cases q with
            | bx ls0 => obtain ⟨rfl, h0, _⟩ := hx; omega
            | v s => cases s <;> exact hx.elim
            | _ => exact hx.elim
          · cases e
        | _ => cases e
      · rfl
/-- Within, where all is but looked at. -/
theorem pars_look {VA : Loc → Value → Prop} {ρ : Nat → Option Own} : ∀ {qs : List PS} {xs : List Pln} {ds : List DL} {vs : List Value} {p : Nat}, allB plainS qs = true → PlnsRep VA true ρ w rc i p qs xs ds vs → ParsRep (fun _ => none) w p qs ds vs
  | [], xs, ds, vs, p, _, h => h.2
  | q :: qs, _, _, _, p, hp, ⟨x, xs, d1, d2, v, vs, rfl, rfl, rfl, hx, hxs⟩ => by
    simp only [allB] at hp
    split at hp
    · rename_i hq
      refine ⟨d1, d2, v, vs, rfl, rfl, ?_, pars_look hp hxs⟩
      cases q with
      | v s =>
        cases s with
        | dat t =>
          cases x with
          | d d0 => obtain ⟨y, e, hy⟩ := hx; exact ⟨y, e, RepV.mono (fun b _ _ => ⟨rfl, fun h => h rfl⟩) hy⟩
          | t _ _ => obtain ⟨h, _⟩ := hx; cases h
          | _ => exact hx.elim
        | _ => cases hq
      | ep t =>
        cases x with
        | d d0 =>
          obtain ⟨y, b, off, l, e, hv, hb, hr, hat⟩ := hx
          exact ⟨y, b, off, l, e, hv, fun h => h rfl, hr.mono fun b _ _ => ⟨rfl, fun h => h rfl⟩, hat⟩
        | _ => exact hx.elim
      | _ => cases hq
    · cases hp
end
end Go.Proofs.Ytbgefphoochgcaa.FE
