/- FE, part 23: functions by contract: what comes back is put in its place. -/
import Derived.Test.YtbgefphoochgcaaFeV
namespace Go.Proofs.Ytbgefphoochgcaa.FE
open Go
set_option linter.unusedVariables false
set_option linter.unusedSimpArgs false
section
variable {Ω : Type} {C : CloRep Ω} {P : Program} {T : Tab} {N : Nat}
variable {rc i : Nat} {G : Ghost} {used used' : Id → Prop} {st ws : S Ω} {a : Act} {w w' : World} {acc rs : List Loc}

def usedF (used : Id → Prop) (rc i lo : Nat) : Id → Prop := fun id => used id ∨ ∃ s, lo ≤ s ∧ id = (rc, i, s)
theorem usedF_lt {n lo : Nat} (h : ¬ used (rc, i, n)) (hl : n < lo) : ¬ usedF used rc i lo (rc, i, n) := by
  rintro (h' | ⟨s, h1, e⟩)
  · exact h h'
  · simp only [Prod.mk.injEq, true_and] at e; omega
theorem usedF_mono {lo lo' : Nat} (h : lo' ≤ lo) : ∀ id, usedF used rc i lo id → usedF used rc i lo' id := by
  rintro id (h' | ⟨s, h1, e⟩)
  · exact .inl h'
  · exact .inr ⟨s, by omega, e⟩
theorem RepAt.of {l : Loc} {u : AV Ω} {v : Value} (h : RepAV1 C G w (some l) u v) (hv : ValAt G a w l v) : RepAt C G a w l u := by
  cases l with
  | tmp t =>
    have hv' : a.tmps.getD t undef = v := hv
    show RepAV C G w (some (.tmp t)) u (a.tmps.getD t undef)
    rw [hv']
    cases u with
    | tup vs => exact h.elim
    | _ => exact h
  | comp t n => exact .inr ⟨v, h⟩
  | box id j => obtain ⟨b, n, h1, h2⟩ := hv; exact .inr ⟨b, n, v, h1, h2, h⟩
  | om => exact hv.elim
theorem Rep.putAt (hr : Rep C G N used st a w) {l : Loc} {u : AV Ω} {v : Value} (h : RepAV1 C G w (some l) u v) (hv : ValAt G a w l v) : Rep C G N used ([(l, u)] ++ st) a w := by
  refine Rep.step (ws := [(l, u)]) hr (Step.refl' hr _) (fun l' hl => ?_) (fun _ _ => rfl) hr.size hr.defers (fun _ _ _ h => .inl h) hr.usedΓ hr.usedβ
  have : l' = l := by simpa [inL_iff] using hl
  subst this
  have e : S.get [(l', u)] l' = u := by simp [S.get, locB_self]
  rw [e]
  exact RepAt.of h hv
theorem Rep.putDead (hr : Rep C G N used st a w) {t n : Nat} : Rep C G N used ([(.comp t n, .one .dead)] ++ st) a w := by
  refine Rep.step (ws := [(.comp t n, .one .dead)]) hr (Step.refl' hr _) (fun l' hl => ?_) (fun _ _ => rfl) hr.size hr.defers (fun _ _ _ h => .inl h) hr.usedΓ hr.usedβ
  have : l' = .comp t n := by simpa [inL_iff] using hl
  subst this
  have e : S.get [(Loc.comp t n, (AV.one .dead : AV Ω))] (.comp t n) = .one .dead := by simp [S.get, locB_self]
  rw [e]
  exact .inl rfl
theorem RepL.free {at_ : Option Loc} {l : Leaf Ω} {v : Value} (h : RepL C G w none l v) : RepL C G w at_ l v := by
  cases l with
  | arr id e xs => obtain ⟨l, e, _⟩ := h; cases e
  | omp id k u m => obtain ⟨l, bs, e, _⟩ := h; cases e
  | _ => exact h
theorem cast_self {t : Ty} {x : El t} : cast? t t x = some x := by
  unfold cast?
  split
  · rfl
  · rename_i h
    have : ∀ t : Ty, t.beq t = true := by
      intro t
      induction t <;> simp_all [Ty.beq]
    rw [this t] at h; cases h
/-- One leaf. -/
theorem leaf_put {n : Nat} (hr : Rep C G N (usedF used rc i (n + 1)) st a w) (hn : ¬ used (rc, i, n)) {l : Loc} {s : LS} {d : DL} {v : Value} {x : Leaf Ω} (h : LSRep G.ρ w (.at_ l) s d v) (hv : ValAt G a w l v) (hx : leafOf (rc, i, n) s d = some x) :
    ∃ G', G'.ρ = G.ρ ∧ G'.β = G.β ∧ Moves G w G' ∧ Rep C G' N (usedF used rc i n) ([(l, .one x)] ++ st) a w := by
  have hfr := usedF_lt hn (Nat.lt_succ_self n)
  have name : ∀ bs, Rep C (G.name (rc, i, n) v bs) N (usedF used rc i n) st a w := fun bs => hr.name hfr v bs (usedF_mono (by omega)) (.inr ⟨n, by omega, rfl⟩)
  have mv : ∀ bs, Moves G w (G.name (rc, i, n) v bs) := fun bs => name_step hr hfr v bs _
  cases s with
  | dat t =>
    obtain ⟨y, rfl, hy⟩ := h
    simp only [leafOf, Option.bind_eq_some_iff] at hx
    obtain ⟨z, hz, hx⟩ := hx
    rw [cast_self] at hz
    cases hz
    have hu := unpack_rep (C := C) (Ω := Ω) (G := G.name (rc, i, n) v []) (w := w) hy
    split at hx
    · rename_i l' hl
      have hx' := Option.some.inj hx
      have hl : unpack t y = [l'] := hl
      rw [hl] at hu
      cases hu with
      | cons h1 _ =>
        rw [← hx']
        exact ⟨G.name (rc, i, n) v [], rfl, rfl, mv [], (name []).putAt (u := .one l') (v := v) h1.free hv⟩
    · cases hx
  | arr e =>
    obtain ⟨xs, rfl, ha⟩ := h
    simp only [leafOf, Option.bind_eq_some_iff] at hx
    obtain ⟨z, hz, hx⟩ := hx
    rw [cast_self] at hz
    cases hz
    cases hx
    exact ⟨G.name (rc, i, n) v [], rfl, rfl, mv [], (name []).putAt (u := .one (.arr (rc, i, n) _ xs)) (v := v) ⟨l, rfl, ⟨[], name_at⟩, ha⟩ hv⟩
  | omp k u =>
    obtain ⟨m, bs, rfl, ha⟩ := h
    simp only [leafOf, Option.bind_eq_some_iff] at hx
    obtain ⟨z, hz, hx⟩ := hx
    rw [cast_self] at hz
    cases hz
    cases hx
    exact ⟨G.name (rc, i, n) v bs, rfl, rfl, mv bs, (name bs).putAt (u := .one (.omp (rc, i, n) k u m)) (v := v) ⟨l, bs, rfl, name_at, ha⟩ hv⟩
theorem ValAt.congr {G' : Ghost} (h : G'.β = G.β) {l : Loc} {v : Value} (hv : ValAt G a w l v) : ValAt G' a w l v := by
  cases l with
  | box id j => obtain ⟨b, n, h1, h2⟩ := hv; exact ⟨b, n, by rw [h]; exact h1, h2⟩
  | _ => exact hv
theorem outB_put {id : Id} : ∀ (ls : List LS) (ds : List DL) (n j : Nat) {ws : List (Loc × AV Ω)} {G : Ghost} {st : S Ω}, Rep C G N (usedF used rc i (n + ls.length)) st a w → (∀ s, n ≤ s → ¬ used (rc, i, s)) →
    (∀ (k : Nat) (s : LS) (d : DL), ls[k]? = some s → ds[k]? = some d → ∃ u, LSRep G.ρ w (.at_ (.box id (j + k))) s d u ∧ ValAt G a w (.box id (j + k)) u) → outB rc i id n j ls ds = some ws →
    ∃ G', G'.ρ = G.ρ ∧ G'.β = G.β ∧ Moves G w G' ∧ Rep C G' N (usedF used rc i n) (ws ++ st) a w
  | [], [], n, j, ws, G, st, hr, hn, hf, h => by cases h; exact ⟨G, rfl, rfl, Step.refl' hr _, hr⟩
  | [], _ :: _, n, j, ws, G, st, hr, hn, hf, h => by cases h
  | _ :: _, [], n, j, ws, G, st, hr, hn, hf, h => by cases h
  | s :: ls, d :: ds, n, j, ws, G, st, hr, hn, hf, h => by
    simp only [outB, Option.bind_eq_some_iff] at h
    obtain ⟨x, hx, ws', hws, h⟩ := h
    cases h
    obtain ⟨G1, e1, e2, hm1, hr1⟩ := outB_put ls ds (n + 1) (j + 1) (by rw [show n + 1 + ls.length = n + (s :: ls).length by simp; omega]; exact hr) (fun s hs => hn s (by omega)) (fun k s d h1 h2 => by
      obtain ⟨u, h3⟩ := hf (k + 1) s d (by simpa using h1) (by simpa using h2)
      exact ⟨u, by rw [show j + 1 + k = j + (k + 1) by omega]; exact h3⟩) hws
    obtain ⟨u, h3, h4⟩ := hf 0 s d rfl rfl
    rw [Nat.add_zero] at h3 h4
    obtain ⟨G2, e3, e4, hm2, hr2⟩ := leaf_put hr1 (hn n (Nat.le_refl _)) (by rw [e1]; exact h3) (h4.congr e2) hx
    exact ⟨G2, e3.trans e1, e4.trans e2, hm1.moves hm2, hr2⟩
theorem OutFact.congr {G' : Ghost} (h1 : G'.ρ = G.ρ) (h2 : G'.β = G.β) {q : PS} {x : Pln} {ds : List DL} {v : Value} (h : OutFact (ValAt G a w) G.ρ G w q x ds v) : OutFact (ValAt G' a w) G'.ρ G' w q x ds v := by
  obtain ⟨Γ, β, ρ⟩ := G
  obtain ⟨Γ', β', ρ'⟩ := G'
  cases h1
  cases h2
  cases q with
  | mu s =>
    cases x with
    | m l id s' => obtain ⟨e, h1, h2⟩ := h; exact ⟨e, h1.congr rfl, h2⟩
    | _ => exact h
  | _ => cases x <;> exact h
theorem OutFact.len {VA : Loc → Value → Prop} {ρ : Nat → Option Own} {q : PS} {x : Pln} {ds : List DL} {v : Value} (h : OutFact VA ρ G w q x ds v) : ds.length = (match x with | .m _ _ _ => 1 | .b _ ls => ls.length | _ => 0) := by
  cases q with
  | mu s =>
    cases x with
    | m l id s' => obtain ⟨_, _, d, rfl, _⟩ := h; rfl
    | _ => exact h.elim
  | bx ls =>
    cases x with
    | b id ls' => obtain ⟨rfl, ⟨b, c, el, _, _, _, _, hl, _⟩, _⟩ := h; exact hl
    | _ => exact h.elim
  | v s => cases x <;> first | exact h.elim | (cases h; rfl)
  | ep t => cases x <;> first | exact h.elim | (cases h; rfl)
  | fn => cases x <;> first | exact h.elim | (cases h; rfl)
theorem outPs_put : ∀ (qs : List PS) (xs : List Pln) (ds : List DL) (vs : List Value) (p n : Nat) {ws : List (Loc × AV Ω)} {G : Ghost}, OutFacts (ValAt G a w) G.ρ G w qs xs ds vs → outPs rc i n p xs ds = some ws → Rep C G N used st a w → (∀ s, n ≤ s → ¬ used (rc, i, s)) →
    ∃ G', G'.ρ = G.ρ ∧ G'.β = G.β ∧ Moves G w G' ∧ Rep C G' N (usedF used rc i n) (ws ++ st) a w
  | [], xs, ds, vs, p, n, ws, G, hf, h, hr, hn => by
    obtain ⟨rfl, rfl, rfl⟩ := hf
    cases h
    exact ⟨G, rfl, rfl, Step.refl' hr _, hr.mono fun _ h => .inl h⟩
  | q :: qs, _, _, _, p, n, ws, G, ⟨x, xs, d1, d2, v, vs, rfl, rfl, rfl, hx, hxs⟩, h, hr, hn => by
    have hlen := hx.len
    cases x with
    | d d0 =>
      obtain rfl : d1 = [] := List.length_eq_zero_iff.1 hlen
      exact outPs_put qs xs d2 vs (p + 1) n hxs h hr hn
    | n =>
      obtain rfl : d1 = [] := List.length_eq_zero_iff.1 hlen
      exact outPs_put qs xs d2 vs (p + 1) n hxs h hr hn
    | t id s =>
      obtain rfl : d1 = [] := List.length_eq_zero_iff.1 hlen
      simp only [outPs, List.nil_append, Option.bind_eq_some_iff] at h
      obtain ⟨ws', hws, h⟩ := h
      cases h
      obtain ⟨G1, e1, e2, hm, hr1⟩ := outPs_put qs xs d2 vs (p + 1) n hxs hws hr hn
      exact ⟨G1, e1, e2, hm, hr1.putDead⟩
    | m l id s =>
      cases q with
      | mu s0 =>
        obtain ⟨rfl, hva, d, rfl, hls⟩ := hx
        simp only [List.cons_append, List.nil_append, outPs, Option.bind_eq_some_iff] at h
        obtain ⟨x, hx', ws', hws, h⟩ := h
        cases h
        obtain ⟨G1, e1, e2, hm, hr1⟩ := outPs_put qs xs d2 vs (p + 1) (n + 1) hxs hws hr (fun s hs => hn s (by omega))
        obtain ⟨G2, e3, e4, hm2, hr2⟩ := leaf_put hr1 (hn n (Nat.le_refl _)) (by rw [e1]; exact hls) (hva.congr e2) hx'
        exact ⟨G2, e3.trans e1, e4.trans e2, hm.moves hm2, hr2⟩
      | _ => exact hx.elim
    | b id ls =>
      cases q with
      | bx ls0 =>
        obtain ⟨rfl, ⟨b, c, el, hv, hρ, hh, hsz, hl, hall⟩, b', hb', hv'⟩ := hx
        rw [hv] at hv'
        cases hv'
        simp only [outPs, Option.bind_eq_some_iff] at h
        obtain ⟨ws1, hw1, ws2, hw2, h⟩ := h
        cases h
        have hl' : d1.length = ls.length := hl
        rw [← hl', List.take_left'  rfl] at hw1
        rw [← hl', List.drop_left' rfl, hl'] at hw2
        obtain ⟨G1, e1, e2, hm, hr1⟩ := outPs_put qs xs d2 vs (p + 1) (n + ls.length) hxs hw2 hr (fun s hs => hn s (by omega))
        obtain ⟨G2, e3, e4, hm2, hr2⟩ := outB_put ls d1 n 0 hr1 hn (fun k s d h1 h2 => by
          have hk : k < c.size := by rw [hsz]; exact (List.getElem?_eq_some_iff.1 h1).1
          have hc := Array.getElem?_eq_getElem hk
          rw [Nat.zero_add]
          exact ⟨c[k], by rw [e1]; exact hall k s d _ h1 h2 hc, b, ls.length, by rw [e2]; exact hb', by simp [World.cell?, hh, hc]⟩) hw1
        exact ⟨G2, e3.trans e1, e4.trans e2, hm.moves hm2, by rw [List.append_assoc]; exact hr2⟩
      | _ => exact hx.elim
end
end Go.Proofs.Ytbgefphoochgcaa.FE
