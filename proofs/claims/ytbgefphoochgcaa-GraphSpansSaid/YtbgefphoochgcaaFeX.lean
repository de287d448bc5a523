/- FE, part 24: functions by contract: results. -/
import Derived.Test.YtbgefphoochgcaaFeW
namespace Go.Proofs.Ytbgefphoochgcaa.FE
open Go
set_option linter.unusedVariables false
set_option linter.unusedSimpArgs false
section
variable {Ω : Type} {C : CloRep Ω} {P : Program} {T : Tab} {N : Nat}
variable {rc i : Nat} {G : Ghost} {used used' : Id → Prop} {st ws : S Ω} {a : Act} {w w' : World} {acc rs : List Loc}

def DatRep (ρ : Nat → Option Own) (w : World) (s : LS) (d : DL) (v : Value) : Prop :=
  match s with
  | .dat t => ∃ x, d = ⟨t, x⟩ ∧ RepV w (Ow ρ) t x v
  | .arr e => ∃ xs, d = ⟨.sl e, xs⟩ ∧ RepC w (Ow ρ) (.sl e) xs [v]
  | .omp k u => ∃ m, d = ⟨.mp k u, m⟩ ∧ RepC w (Ow ρ) (.mp k u) m [v]
def ownS (s : LS) (own : Bool) : Bool := match s with | .dat _ => false | _ => own
def ResFact (ρ : Nat → Option Own) (w : World) (own : Bool) (l : Loc) (rc i k : Nat) (r : RS) (ds : List DL) (v : Value) : Prop :=
  match r with
  | .v s => ∃ d, ds = [d] ∧ (match ownS s own with | true => LSRep ρ w (.at_ l) s d v | false => DatRep ρ w s d v)
  | .bx ls => BoxRep ρ w (rc, i, k) ls ds v
def resN (own : Bool) (k : Nat) (r : RS) : Nat := match r with | .v s => (match ownS s own with | true => k + 1 | false => k) | .bx ls => k + 1 + ls.length
theorem RepAV1.of {at_ : Option Loc} {u : AV Ω} {v : Value} (hu : ∀ vs, u ≠ .tup vs) (h : RepAV C G w none u v) : RepAV1 C G w at_ u v := by
  cases u with
  | one l => exact RepL.free (C := C) (G := G) (w := w) h
  | agg ls => exact h
  | tup vs => exact absurd rfl (hu vs)
theorem avOf_ne {g : Bool} {ls : List (Leaf Ω)} : ∀ vs, avOf g ls ≠ .tup vs := by
  intro vs
  unfold avOf
  split
  · simp
  · split <;> simp
/-- A new box. -/
theorem Rep.addBox (hr : Rep C G N used st a w) {id : Id} (hid : ¬ used id) {b n : Nat} (hρ : G.ρ b = some (.bx id)) (hh : ∃ c el, w.heap[b]? = some (.cells c el (0, 0)) ∧ c.size = n) (hu : ∀ x, used x → used' x) (hi : used' id) :
    Moves G w { G with β := fun x => match idB id x with | true => some (b, n) | false => G.β x } ∧ Rep C { G with β := fun x => match idB id x with | true => some (b, n) | false => G.β x } N used' st a w := by
  have ne : ∀ {x y}, G.β x = some y → idB id x = false := by
    intro x y h
    cases e : idB id x
    · rfl
    · obtain rfl := idB_iff.1 e
      exact absurd (hr.usedβ _ (by rw [h]; simp)) hid
  have hs : ∀ L, Step G w { G with β := fun x => match idB id x with | true => some (b, n) | false => G.β x } w L := fun L =>
    ⟨fun _ _ h => h, fun x y h => by simp only [ne h]; exact h, rfl, rfl, rfl, Nat.le_refl _, Free.refl _ _, fun _ _ h _ => ⟨rfl, h⟩, fun _ h => ⟨rfl, h⟩, fun _ h _ => ⟨rfl, h⟩, fun b n x h => ⟨(hr.box x b n h).1, (hr.box x b n h).2, fun _ _ => rfl⟩, hr.lt, fun _ _ h _ => h⟩
  refine ⟨hs _, Rep.step (ws := []) hr (hs _) (fun l hl => by simp [inL] at hl) (fun _ _ => rfl) hr.size hr.defers (fun x b' n' h => ?_) (fun x h => hu x (hr.usedΓ x h)) (fun x h => ?_)⟩
  · cases e : idB id x with
    | true =>
      obtain rfl := idB_iff.1 e
      simp only [e] at h
      cases h
      exact .inr ⟨hρ, hh⟩
    | false => simp only [e] at h; exact .inl h
  · cases e : idB id x with
    | true => obtain rfl := idB_iff.1 e; exact hi
    | false => simp only [e] at h; exact hu x (hr.usedβ x h)
theorem resP_put {own : Bool} {l : Loc} {k : Nat} {r : RS} {ds : List DL} {x : Res Ω} {v : Value} (hr : Rep C G N (usedF used rc i x.n) st a w) (hn : ∀ s, k ≤ s → ¬ used (rc, i, s)) (hx : resP own l rc i k r ds = some x) (h : ResFact G.ρ w own l rc i k r ds v) :
    x.n = resN own k r ∧ ∃ G', G'.ρ = G.ρ ∧ Moves G w G' ∧ Rep C G' N (usedF used rc i k) (x.ws ++ st) a w ∧ RepAV1 C G' w (some l) x.v v ∧ RepAV1 C G' w none x.al v := by
  cases r with
  | v s =>
    obtain ⟨d, rfl, h⟩ := h
    cases s with
    | dat t =>
      obtain ⟨y, rfl, hy⟩ := h
      simp only [resP, Option.bind_eq_some_iff] at hx
      obtain ⟨z, hz, hx⟩ := hx
      rw [cast_self] at hz
      cases hz
      cases hx
      have hav : RepAV C G w none (avOf (rowB t) (unpack t y)) v := by
        unfold RepV Val at hy
        cases hb : rowB t with
        | true =>
          rw [hb] at hy
          obtain ⟨cs, rfl, hy⟩ := hy
          exact avOf_rep (unpack_rep hy) rfl
        | false =>
          rw [hb] at hy
          exact avOf_rep (unpack_rep hy) rfl
      exact ⟨rfl, G, rfl, Step.refl' hr _, hr, RepAV1.of avOf_ne hav, RepAV1.of avOf_ne hav⟩
    | arr e =>
      simp only [resP, Option.bind_eq_some_iff] at hx
      obtain ⟨z, hz, hx⟩ := hx
      cases own with
      | true =>
        obtain ⟨xs, rfl, ha⟩ := h
        rw [cast_self] at hz
        cases hz
        cases hx
        have hfr := usedF_lt (hn k (Nat.le_refl _)) (Nat.lt_succ_self k)
        have h1 := hr.name hfr v [] (used' := usedF used rc i k) (usedF_mono (Nat.le_succ k)) (.inr ⟨k, Nat.le_refl _, rfl⟩)
        exact ⟨rfl, G.name (rc, i, k) v [], rfl, name_step hr hfr v [] _, h1, ⟨l, rfl, ⟨[], name_at⟩, ha⟩, ⟨[], name_at⟩, by obtain ⟨ad, cap, rfl, _⟩ := ha.header; rfl⟩
      | false =>
        obtain ⟨xs, rfl, ha⟩ := h
        rw [cast_self] at hz
        cases hz
        cases hx
        exact ⟨rfl, G, rfl, Step.refl' hr _, hr, ha, ha⟩
    | omp kt u =>
      simp only [resP, Option.bind_eq_some_iff] at hx
      obtain ⟨z, hz, hx⟩ := hx
      cases own with
      | true =>
        obtain ⟨m, bs, rfl, ha⟩ := h
        rw [cast_self] at hz
        cases hz
        cases hx
        have hfr := usedF_lt (hn k (Nat.le_refl _)) (Nat.lt_succ_self k)
        have h1 := hr.name hfr v bs (used' := usedF used rc i k) (usedF_mono (Nat.le_succ k)) (.inr ⟨k, Nat.le_refl _, rfl⟩)
        exact ⟨rfl, G.name (rc, i, k) v bs, rfl, name_step hr hfr v bs _, h1, ⟨l, bs, rfl, name_at, ha⟩, ⟨bs, name_at⟩, by obtain ⟨b, es, clock, rfl, _⟩ := ha; rfl⟩
      | false =>
        obtain ⟨m, rfl, ha⟩ := h
        rw [cast_self] at hz
        cases hz
        cases hx
        exact ⟨rfl, G, rfl, Step.refl' hr _, hr, ha, ha⟩
  | bx ls =>
    have hx' : (outB rc i (rc, i, k) (k + 1) 0 ls ds).bind (fun ws => some (⟨.one (.ref (rc, i, k) 0 ls.length), .one (.ref (rc, i, k) 0 ls.length), ws, k + 1 + ls.length⟩ : Res Ω)) = some x := hx
    simp only [Option.bind_eq_some_iff] at hx'
    obtain ⟨ws', hws, hx'⟩ := hx'
    cases hx'
    obtain ⟨b, c, el, hv, hρ, hh, hsz, hl, hall⟩ := h
    obtain ⟨hm1, hr1⟩ := hr.addBox (id := (rc, i, k)) (used' := usedF (fun id => used id ∨ id = (rc, i, k)) rc i (k + 1 + ls.length)) (usedF_lt (hn k (Nat.le_refl _)) (show k < k + 1 + ls.length by omega)) hρ ⟨c, el, hh, hsz⟩ (by
      rintro y (h | h)
      · exact .inl (.inl h)
      · exact .inr h) (.inl (.inr rfl))
    obtain ⟨G2, e1, e2, hm2, hr2⟩ := outB_put (used := fun id => used id ∨ id = (rc, i, k)) ls ds (k + 1) 0 hr1 (by
      rintro s hs (h | h)
      · exact hn s (by omega) h
      · simp only [Prod.mk.injEq, true_and] at h; omega) (fun j s d h1 h2 => by
      have hk : j < c.size := by rw [hsz]; exact (List.getElem?_eq_some_iff.1 h1).1
      have hc := Array.getElem?_eq_getElem hk
      rw [Nat.zero_add]
      exact ⟨c[j], hall j s d _ h1 h2 hc, b, ls.length, by simp [idB_iff.2 rfl, hsz], by simp [World.cell?, hh, hc]⟩) hws
    have hβ : G2.β (rc, i, k) = some (b, ls.length) := by rw [e2]; simp [idB_iff.2 rfl, hsz]
    refine ⟨rfl, G2, e1, hm1.moves hm2, hr2.mono ?_, ⟨b, hβ, hv⟩, ⟨b, hβ, hv⟩⟩
    rintro y ((h | h) | ⟨s, h1, h2⟩)
    · exact .inl h
    · exact .inr ⟨k, by omega, h⟩
    · exact .inr ⟨s, by omega, h2⟩
def ResFacts (ρ : Nat → Option Own) (w : World) (own d rc i : Nat) : Nat → Nat → List RS → List DL → List Value → Prop
  | _, _, [], ds, vs => ds = [] ∧ vs = []
  | k, n, r :: rs, ds, vs => ∃ d1 d2 v vs', ds = d1 ++ d2 ∧ vs = v :: vs' ∧ d1.length = r.tys.length ∧ ResFact ρ w (own.testBit n) (.comp d n) rc i k r d1 v ∧ ResFacts ρ w own d rc i (resN (own.testBit n) k r) (n + 1) rs d2 vs'
theorem av1_back {at_ : Option Loc} {u : AV Ω} {v : Value} (h : RepAV1 C G w at_ u v) : avOf (aggV u) (leavesOf u) = u := by
  cases u with
  | one l => rfl
  | agg ls => rfl
  | tup vs => exact h.elim
theorem resMany_put {own d : Nat} : ∀ (rs : List RS) (ds rest : List DL) (vs : List Value) (k n : Nat) {y : ResM Ω} {G : Ghost}, resMany' own d rc i k n rs (ds ++ rest) = some y → ResFacts G.ρ w own d rc i k n rs ds vs → Rep C G N (usedF used rc i y.n) st a w → (∀ s, k ≤ s → ¬ used (rc, i, s)) →
    k ≤ y.n ∧ y.ds = rest ∧ ∃ G', G'.ρ = G.ρ ∧ Moves G w G' ∧ Rep C G' N (usedF used rc i k) (y.ws ++ st) a w ∧ All2 (fun p u => RepAV1 C G' w none (avOf p.1 p.2) u) y.vs vs
  | [], ds, rest, vs, k, n, y, G, h, hf, hr, hn => by
    obtain ⟨rfl, rfl⟩ := hf
    cases h
    exact ⟨Nat.le_refl _, rfl, G, rfl, Step.refl' hr _, hr, .nil⟩
  | r :: rs, ds, rest, vs0, k, n, y, G, h, hfs, hr, hn => by
    obtain ⟨d1, d2, v, vs, rfl, rfl, hl, hx, hxs⟩ := hfs
    simp only [resMany', Option.bind_eq_some_iff] at h
    obtain ⟨x, h1, y', h2, h⟩ := h
    cases h
    rw [List.append_assoc, ← hl, List.take_left' rfl] at h1
    rw [List.append_assoc, ← hl, List.drop_left' rfl] at h2
    have en : x.n = resN (own.testBit n) k r := by
      cases r with
      | v s =>
        obtain ⟨d0, rfl, _⟩ := hx
        cases s <;> simp only [resP, Option.bind_eq_some_iff] at h1
        · obtain ⟨z, _, h1⟩ := h1; cases h1; rfl
        · obtain ⟨z, _, h1⟩ := h1
          cases ho : own.testBit n <;> rw [ho] at h1 <;> cases h1 <;> simp [resN, ownS]
        · obtain ⟨z, _, h1⟩ := h1
          cases ho : own.testBit n <;> rw [ho] at h1 <;> cases h1 <;> simp [resN, ownS]
      | bx ls =>
        have h1' : (outB rc i (rc, i, k) (k + 1) 0 ls d1).bind (fun ws => some (⟨.one (.ref (rc, i, k) 0 ls.length), .one (.ref (rc, i, k) 0 ls.length), ws, k + 1 + ls.length⟩ : Res Ω)) = some x := h1
        simp only [Option.bind_eq_some_iff] at h1'
        obtain ⟨_, _, h1'⟩ := h1'
        cases h1'; rfl
    have hk : k ≤ x.n := by
      rw [en]
      cases r with
      | v s => simp only [resN]; split <;> omega
      | bx ls => simp only [resN]; omega
    obtain ⟨h3, h4, G1, e1, hm1, hr1, hall⟩ := resMany_put rs d2 rest vs x.n (n + 1) h2 (by rw [en]; exact hxs) hr (fun s hs => hn s (by omega))
    obtain ⟨_, G2, e2, hm2, hr2, hv, hal⟩ := resP_put hr1 hn h1 (by rw [e1]; exact hx)
    have hr3 := hr2.putAt hv (show ValAt G2 a w (.comp d n) v from trivial)
    refine ⟨by show k ≤ y'.n; omega, h4, G2, e2.trans e1, hm1.moves hm2, by simpa using hr3, .cons ?_ (hall.mono fun p u h => ?_)⟩
    · show RepAV1 C G2 w none (avOf (aggV x.al) (leavesOf x.al)) v
      rw [av1_back hal]
      exact hal
    · have hne := avOf_ne (Ω := Ω) (g := p.1) (ls := p.2)
      have h' : RepAV C G1 w none (avOf p.1 p.2) u := by
        cases hq : avOf p.1 p.2 <;> rw [hq] at h <;> first | exact h | exact h.elim
      exact RepAV1.of hne (h'.moves hm2)
end
end Go.Proofs.Ytbgefphoochgcaa.FE
