/- FE, part 38: functions: the way in. -/
import Derived.Test.YtbgefphoochgcaaFeEv
import Derived.Tactics
namespace Go.Proofs.Ytbgefphoochgcaa.FE
open Go
set_option linter.unusedVariables false
set_option linter.unusedSimpArgs false
section
variable {Ω : Type} {C : CloRep Ω} {P : Program} {T : Tab} {N : Nat} {Φ : Env Ω}
variable {ρ : Nat → Option Own} {a : Act} {w : World} {G : Ghost}

def notRow : LS → Bool | .dat t => !(rowB t) | _ => true
def parB : PS → Bool
  | .mu s => !(datS s)
  | .bx ls => allB notRow ls
  | _ => true
def noFn : PS → Bool | .fn => false | _ => true
theorem FnAt.none {C : CloRep Ω} {qs : List PS} {vs : List Value} (h : allB noFn qs = true) : FnAt C qs vs := fun k hk => by
  have := allB_spec h _ (List.mem_of_getElem? hk)
  cases this
def usedP (p : Nat) : Id → Prop := fun id => ∃ k, p ≤ k ∧ id = (0, 0, k)
theorem SlotRep.more {G' : Ghost} (h1 : G'.ρ = G.ρ) (h2 : ∀ id b, G.β id = some b → G'.β id = some b) {l : Loc} {s : LS} {d : DL} (h : SlotRep G a w l s d) : SlotRep G' a w l s d := by
  obtain ⟨v, hv, h⟩ := h
  have hO : G'.O = G.O := by unfold Ghost.O; rw [h1]
  refine ⟨v, ?_, ?_⟩
  · cases l with
    | box id j => obtain ⟨b, n, k1, k2⟩ := hv; exact ⟨b, n, h2 _ _ k1, k2⟩
    | _ => exact hv
  · cases s with
    | dat t => obtain ⟨x, e, h⟩ := h; exact ⟨x, e, by rw [hO]; exact h⟩
    | arr e => rw [h1]; exact h
    | omp k v => rw [h1]; exact h
theorem slot_of {l : Loc} {s : LS} {d : DL} {v : Value} (hv : ValAt G a w l v) (hn : notRow s = true) (h : LSRep G.ρ w (.at_ l) s d v) : SlotRep G a w l s d := by
  refine ⟨v, hv, ?_⟩
  cases s with
  | dat t =>
    obtain ⟨x, e, h⟩ := h
    refine ⟨x, e, ?_⟩
    have hb : rowB t = false := by simpa [notRow] using hn
    unfold RepV Val
    rw [hb]
    exact h
  | arr e => exact h
  | omp k v => exact h
theorem boxS_slots {id : Id} {b n : Nat} (hβ : G.β id = some (b, n)) : ∀ (ls : List LS) (ds : List DL) (j : Nat), ds.length = ls.length → allB notRow ls = true →
    (∀ (k : Nat) s d, ls[k]? = some s → ds[k]? = some d → ∃ u, w.cell? ⟨b, j + k, none⟩ = some u ∧ LSRep G.ρ w (.at_ (.box id (j + k))) s d u) → All2 (fun (q : Loc × LS) d => SlotRep G a w q.1 q.2 d) (boxS id j ls) ds
  | [], [], j, _, _, _ => .nil
  | [], _ :: _, j, h, _, _ => by cases h
  | _ :: _, [], j, h, _, _ => by cases h
  | s :: ls, d :: ds, j, h, hb, hk => by
    have hb' := allB_spec hb
    obtain ⟨u, h1, h2⟩ := hk 0 s d rfl rfl
    refine .cons (slot_of (v := u) ⟨b, n, hβ, h1⟩ (hb' s (by simp)) h2) (boxS_slots hβ ls ds (j + 1) (by simpa using h) ?_ fun k s' d' e1 e2 => ?_)
    · simp only [allB] at hb
      split at hb
      · exact hb
      · cases hb
    · obtain ⟨u, h3, h4⟩ := hk (k + 1) s' d' (by simpa using e1) (by simpa using e2)
      rw [show j + 1 + k = j + (k + 1) by omega]
      exact ⟨u, h3, h4⟩
theorem All2.mono' {α β : Type} {R Q : α → β → Prop} (h : ∀ a b, R a b → Q a b) {as : List α} {bs : List β} (t : All2 R as bs) : All2 Q as bs := t.mono h
theorem usedP_mono {p : Nat} : ∀ id, usedP (p + 1) id → usedP p id := by
  rintro id ⟨k, h, e⟩; exact ⟨k, by omega, e⟩
theorem parR_put (hlt : ∀ b, Ow ρ b → b < w.heap.size) (hsz : a.tmps.size = N) (hd : a.defers = []) : ∀ (qs : List PS) (ds : List DL) (vs : List Value) (p : Nat), allB parB qs = true → FnAt C qs vs → ParsRep ρ w p qs ds vs → (∀ (k : Nat) v, vs[k]? = some v → a.tmps.getD (p + k) undef = v) →
    ∃ G, G.ρ = ρ ∧ Rep C G N (usedP p) (parR p qs ds) a w ∧ All2 (fun (q : Loc × LS) d => SlotRep G a w q.1 q.2 d) (parL p qs) (parD qs ds)
  | [], ds, vs, p, hb, hfn, h, hv => by
    refine ⟨⟨fun _ => none, fun _ => none, ρ⟩, rfl, ⟨fun l => RepAt.dead', hsz, hd, fun id b n h => (by cases h), fun id h => absurd rfl h, fun id h => absurd rfl h, hlt⟩, .nil⟩
  | q :: qs, ds, vs, p, hb, hfn, h, hv => by
    obtain ⟨d1, d2, v, vs', rfl, rfl, h1, h2⟩ := h
    have hb2 : parB q = true ∧ allB parB qs = true := by
      simp only [allB] at hb
      split at hb
      · rename_i e; exact ⟨e, hb⟩
      · cases hb
    obtain ⟨G, e1, hr, hs⟩ := parR_put hlt hsz hd qs d2 vs' (p + 1) hb2.2 (fun k hk => by simpa using hfn (k + 1) (by simpa using hk)) h2 (fun k v' e => by
      have := hv (k + 1) v' (by simpa using e)
      rwa [show p + (k + 1) = p + 1 + k by omega] at this)
    have hv0 : a.tmps.getD p undef = v := by simpa using hv 0 v rfl
    have hO : G.O = Ow ρ := by unfold Ghost.O; rw [e1]
    have one : ∀ {s : LS} {d : DL}, d1 = [d] → SlotRep G a w (.tmp p) s d → Rep C G N (usedP p) (parR (p + 1) qs ((d1 ++ d2).drop 1)) a w ∧ All2 (fun (q : Loc × LS) d => SlotRep G a w q.1 q.2 d) ((.tmp p, s) :: parL (p + 1) qs) ((d1 ++ d2).take 1 ++ parD qs ((d1 ++ d2).drop 1)) := by
      rintro s d rfl h
      exact ⟨hr.mono usedP_mono, .cons h hs⟩
    cases q with
    | v s =>
      cases s with
      | dat t =>
        obtain ⟨x, e, h⟩ := h1
        obtain ⟨k1, k2⟩ := one (s := .dat t) e ⟨v, hv0, x, rfl, by rw [hO]; exact h⟩
        exact ⟨G, e1, k1, k2⟩
      | arr e' =>
        obtain ⟨d, e, h⟩ := h1
        obtain ⟨k1, k2⟩ := one (s := .arr e') e (slot_of hv0 rfl (by rw [e1]; exact h))
        exact ⟨G, e1, k1, k2⟩
      | omp k u =>
        obtain ⟨d, e, h⟩ := h1
        obtain ⟨k1, k2⟩ := one (s := .omp k u) e (slot_of hv0 rfl (by rw [e1]; exact h))
        exact ⟨G, e1, k1, k2⟩
    | mu s =>
      obtain ⟨d, e, h⟩ := h1
      have hn : notRow s = true := by
        have := hb2.1
        cases s <;> first | rfl | cases this
      obtain ⟨k1, k2⟩ := one (s := s) e (slot_of hv0 hn (by rw [e1]; exact h))
      exact ⟨G, e1, k1, k2⟩
    | ep t =>
      obtain ⟨x, b, off, l, rfl, rfl, hb, hx, hat⟩ := h1
      refine ⟨G, e1, ?_, hs⟩
      have : epV (Ω := Ω) t ([⟨t, x⟩] ++ d2) = .one (.eptr t x) := by simp [epV, cast_self]
      show Rep C G N (usedP p) ((.tmp p, epV t ([⟨t, x⟩] ++ d2)) :: parR (p + 1) qs d2) a w
      rw [this]
      exact Rep.putAt (u := .one (.eptr t x)) (hr.mono usedP_mono) ⟨b, off, l, rfl, by rw [hO]; exact hb, by rw [hO]; exact hx, hat⟩ hv0
    | bx ls =>
      obtain ⟨b, c, el, rfl, hρ, hh, hc, hd1, hl⟩ := h1
      obtain ⟨hm, hr2⟩ := hr.addBox (id := (0, 0, p)) (b := b) (n := ls.length) (used' := usedP p) (by rintro ⟨k, h, e⟩; simp only [Prod.mk.injEq, true_and] at e; omega) (by rw [e1]; exact hρ) ⟨c, el, hh, hc⟩ usedP_mono ⟨p, Nat.le_refl _, rfl⟩
      have hβ : (fun x => match idB (0, 0, p) x with | true => some (b, ls.length) | false => G.β x) (0, 0, p) = some (b, ls.length) := by simp [idB_iff.2 rfl]
      refine ⟨{ G with β := fun x => match idB (0, 0, p) x with | true => some (b, ls.length) | false => G.β x }, e1, ?_, ?_⟩
      · show Rep C _ N (usedP p) ((.tmp p, .one (.ref (0, 0, p) 0 ls.length)) :: parR (p + 1) qs ((d1 ++ d2).drop ls.length)) a w
        rw [← hd1, List.drop_left]
        rw [hd1]
        exact Rep.putAt (l := .tmp p) (u := .one (.ref (0, 0, p) 0 ls.length)) hr2 ⟨b, hβ, rfl⟩ hv0
      · show All2 _ (boxS (0, 0, p) 0 ls ++ parL (p + 1) qs) ((d1 ++ d2).take ls.length ++ parD qs ((d1 ++ d2).drop ls.length))
        rw [show (d1 ++ d2).take ls.length = d1 by rw [← hd1, List.take_left], show (d1 ++ d2).drop ls.length = d2 by rw [← hd1, List.drop_left]]
        refine .append (boxS_slots (G := { G with β := fun x => match idB (0, 0, p) x with | true => some (b, ls.length) | false => G.β x }) hβ ls d1 0 hd1 hb2.1 fun k s d k1 k2 => ?_) (hs.mono fun q d h => SlotRep.more (G := G) (G' := { G with β := fun x => match idB (0, 0, p) x with | true => some (b, ls.length) | false => G.β x }) rfl hm.β h)
        have hk : k < ls.length := by
          rcases Nat.lt_or_ge k ls.length with h | h
          · exact h
          · rw [List.getElem?_eq_none h] at k1; cases k1
        have hk' : k < c.size := by omega
        have h3 := hl k s d c[k] k1 k2 (Array.getElem?_eq_getElem hk')
        rw [Nat.zero_add]
        exact ⟨c[k], by simp [World.cell?, hh, hk'], by show LSRep G.ρ _ _ _ _ _; rw [e1]; exact h3⟩
    | fn =>
      obtain rfl : d1 = [] := h1
      obtain rfl : v = C.val := by simpa using hfn 0 rfl
      exact ⟨G, e1, Rep.putAt (l := .tmp p) (u := .one .fnv) (hr.mono usedP_mono) rfl hv0, hs⟩
/-- The state at a function's begin. -/
theorem start_ok (hlt : ∀ b, Ow ρ b → b < w.heap.size) (hsz : a.tmps.size = N) (hd : a.defers = []) {qs : List PS} {ds : List DL} {vs : List Value} (hb : allB parB qs = true) (hfn : FnAt C qs vs) (h : ParsRep ρ w 0 qs ds vs) (hv : ∀ (k : Nat) v, vs[k]? = some v → a.tmps.getD k undef = v) :
    ∃ G, G.ρ = ρ ∧ Rep C G N (usedB 1) (parS qs ds) a w := by
  obtain ⟨G, e1, hr, hs⟩ := parR_put (C := C) hlt hsz hd qs ds vs 0 hb hfn h (fun k v e => by rw [Nat.zero_add]; exact hv k v e)
  obtain ⟨G', e2, e3, hr'⟩ := unslots_put (rc := 0) (parL 0 qs) (parD qs ds) 0 hr (fun k => by rintro ⟨k', _, e⟩; simp at e) hs
  refine ⟨G', e2.trans e1, hr'.mono ?_⟩
  rintro id (⟨k, _, rfl⟩ | ⟨s, _, rfl⟩) <;> exact Nat.zero_lt_one
end
end Go.Proofs.Ytbgefphoochgcaa.FE
