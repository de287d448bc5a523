/- FE, part 35: what is kept at loops' heads and where ways meet. -/
import Derived.Test.YtbgefphoochgcaaFeCode
namespace Go.Proofs.Ytbgefphoochgcaa.FE
open Go
set_option linter.unusedVariables false
set_option linter.unusedSimpArgs false
section
variable {Ω : Type} {C : CloRep Ω} {N : Nat} {G : Ghost} {used : Id → Prop} {st : S Ω} {a : Act} {w : World}

/-- A place of a shape: the value that stands there, and its datum. -/
def SlotRep (G : Ghost) (a : Act) (w : World) (l : Loc) (s : LS) (d : DL) : Prop :=
  ∃ v, ValAt G a w l v ∧ (match s with | .dat t => ∃ x, d = ⟨t, x⟩ ∧ RepV w G.O t x v | s => LSRep G.ρ w (.at_ l) s d v)
theorem RepAt.get {l : Loc} {u : AV Ω} (h : RepAt C G a w l u) (hd : u ≠ .one .dead) (ht : ∀ vs, u ≠ .tup vs) (ho : ∀ s, u ≠ .one (.opq s)) : ∃ v, ValAt G a w l v ∧ RepAV1 C G w (some l) u v := by
  cases l with
  | tmp t =>
    refine ⟨a.tmps.getD t undef, rfl, ?_⟩
    have h' : RepAV C G w (some (.tmp t)) u (a.tmps.getD t undef) := h
    cases u with
    | one l => exact h'
    | agg ls => exact h'
    | tup vs => exact absurd rfl (ht vs)
  | comp t n =>
    rcases h with h | ⟨v, h⟩
    · exact absurd h hd
    · exact ⟨v, trivial, h⟩
  | box id j =>
    rcases h with h | ⟨b, n, v, h1, h2, h3⟩
    · exact absurd h hd
    · exact ⟨v, ⟨b, n, h1, h2⟩, h3⟩
  | om =>
    rcases h with h | ⟨s, h, _⟩
    · exact absurd h hd
    · exact absurd h (ho s)
theorem sized_of_dat {u : AV Ω} (ht : ∀ vs, u ≠ .tup vs) (h : ∀ l ∈ leavesOf u, datL l = true) : sizedV u = true := by
  have live : ∀ l : Leaf Ω, datL l = true → liveL l = true := by intro l h; cases l <;> first | rfl | cases h
  cases u with
  | one l => exact live l (h l (by simp [leavesOf]))
  | agg ls =>
    have : ∀ ls : List (Leaf Ω), (∀ l ∈ ls, datL l = true) → allLive ls = true := by
      intro ls
      induction ls with
      | nil => intro _; rfl
      | cons x r ih => intro h; simp only [allLive, live x (h x (by simp))]; exact ih fun l hl => h l (by simp [hl])
    exact this ls h
  | tup vs => exact absurd rfl (ht vs)
theorem slot_rep {l : Loc} {s : LS} {d : DL} (hr : Rep C G N used st a w) (h : slotLS s (st.get l) = some d) : SlotRep G a w l s d := by
  have ht : ∀ vs, st.get l ≠ .tup vs := by
    intro vs e
    rw [e] at h
    cases s <;> cases h
  have hat := hr.at_ l
  cases s with
  | dat t =>
    simp only [slotLS] at h
    split at h
    · rename_i hb
      have hb := ((Bool.and_eq_true _ _).mp hb).2
      simp only [Option.map_eq_some_iff] at h
      obtain ⟨x, hx, rfl⟩ := h
      have hdat := packAll_dat hx
      have hd : st.get l ≠ .one .dead := by
        intro e; rw [e] at hdat; cases hdat _ (List.mem_cons_self)
      have ho : ∀ s, st.get l ≠ .one (.opq s) := by
        intro s e; rw [e] at hdat; cases hdat _ (List.mem_cons_self)
      obtain ⟨v, hv, h1⟩ := hat.get hd ht ho
      have hn : RepAV C G w none (st.get l) v := by
        generalize st.get l = u at *
        cases u with
        | one lf =>
          have := hdat lf (by simp [leavesOf])
          cases lf <;> first | exact h1 | cases this
        | agg ls => exact h1
        | tup vs => exact h1.elim
      exact ⟨v, hv, x, rfl, repV_of (bothB_iff hb) (shape_of hn (sized_of_dat ht hdat)) (packAll_rep hx (leaves_rep hn (sized_of_dat ht hdat)))⟩
    · cases h
  | arr e =>
    have h' : leafLS (.arr e) (st.get l) = some d := h
    have hd : st.get l ≠ .one .dead := by intro e'; rw [e'] at h'; cases h'
    have ho : ∀ s, st.get l ≠ .one (.opq s) := by intro s e'; rw [e'] at h'; cases h'
    obtain ⟨v, hv, h1⟩ := hat.get hd ht ho
    refine ⟨v, hv, ?_⟩
    generalize st.get l = u at *
    cases u with
    | one lf =>
      cases lf with
      | arr id e' xs =>
        simp only [leafLS, Option.map_eq_some_iff] at h'
        obtain ⟨ys, hc, rfl⟩ := h'
        obtain ⟨ee, rfl⟩ := cast_eq hc
        cases ee
        obtain ⟨l', e3, _, ha⟩ := h1
        cases e3
        exact ⟨_, rfl, ha⟩
      | nilS =>
        cases h'
        exact ⟨[], rfl, .inl ⟨rfl, h1⟩⟩
      | _ => cases h'
    | _ => cases h'
  | omp k m =>
    have h' : leafLS (.omp k m) (st.get l) = some d := h
    have hd : st.get l ≠ .one .dead := by intro e'; rw [e'] at h'; cases h'
    have ho : ∀ s, st.get l ≠ .one (.opq s) := by intro s e'; rw [e'] at h'; cases h'
    obtain ⟨v, hv, h1⟩ := hat.get hd ht ho
    refine ⟨v, hv, ?_⟩
    generalize st.get l = u at *
    cases u with
    | one lf =>
      cases lf with
      | omp id k' m' mm =>
        simp only [leafLS, Option.map_eq_some_iff] at h'
        obtain ⟨ys, hc, rfl⟩ := h'
        obtain ⟨ee, rfl⟩ := cast_eq hc
        cases ee
        obtain ⟨l', bs, e3, _, ha⟩ := h1
        cases e3
        exact ⟨_, bs, rfl, ha⟩
      | _ => cases h'
    | _ => cases h'
variable {rc : Nat}
theorem SlotRep.ghost {G' : Ghost} (h1 : G'.ρ = G.ρ) (h2 : G'.β = G.β) {l : Loc} {s : LS} {d : DL} (h : SlotRep G a w l s d) : SlotRep G' a w l s d := by
  obtain ⟨Γ, β, ρ⟩ := G
  obtain ⟨Γ', β', ρ'⟩ := G'
  cases h1
  cases h2
  obtain ⟨v, hv, h⟩ := h
  exact ⟨v, hv.congr rfl, h⟩
theorem slot_put {n : Nat} (hr : Rep C G N (usedF used rc 1 (n + 1)) st a w) (hn : ¬ used (rc, 1, n)) {l : Loc} {s : LS} {d : DL} (h : SlotRep G a w l s d) :
    ∃ G', G'.ρ = G.ρ ∧ G'.β = G.β ∧ Rep C G' N (usedF used rc 1 n) ([(l, slotV (rc, 1, n) s d)] ++ st) a w := by
  obtain ⟨v, hv, h⟩ := h
  have hfr := usedF_lt hn (Nat.lt_succ_self n)
  have name : ∀ bs, Rep C (G.name (rc, 1, n) v bs) N (usedF used rc 1 n) st a w := fun bs => hr.name hfr v bs (usedF_mono (by omega)) (.inr ⟨n, by omega, rfl⟩)
  cases s with
  | dat t =>
    obtain ⟨x, rfl, hx⟩ := h
    have hav : RepAV C G w none (avOf (rowB t) (unpack t x)) v := by
      unfold RepV Val at hx
      cases hb : rowB t with
      | true =>
        rw [hb] at hx
        obtain ⟨cs, rfl, hx⟩ := hx
        exact avOf_rep (unpack_rep hx) rfl
      | false =>
        rw [hb] at hx
        exact avOf_rep (unpack_rep hx) rfl
    have e : slotV (Ω := Ω) (rc, 1, n) (.dat t) ⟨t, x⟩ = avOf (rowB t) (unpack t x) := by
      simp only [slotV, cast_self]
    rw [e]
    exact ⟨G, rfl, rfl, (hr.mono (usedF_mono (by omega))).putAt (RepAV1.of avOf_ne hav) hv⟩
  | arr e =>
    obtain ⟨xs, rfl, ha⟩ := h
    have e : slotV (Ω := Ω) (rc, 1, n) (.arr e) ⟨.sl e, xs⟩ = .one (.arr (rc, 1, n) e xs) := by
      simp only [slotV, cast_self]
    rw [e]
    exact ⟨G.name (rc, 1, n) v [], rfl, rfl, (name []).putAt (u := .one (.arr (rc, 1, n) _ xs)) (v := v) ⟨l, rfl, ⟨[], name_at⟩, ha⟩ hv⟩
  | omp k u =>
    obtain ⟨m, bs, rfl, ha⟩ := h
    have e : slotV (Ω := Ω) (rc, 1, n) (.omp k u) ⟨.mp k u, m⟩ = .one (.omp (rc, 1, n) k u m) := by
      simp only [slotV, cast_self]
    rw [e]
    exact ⟨G.name (rc, 1, n) v bs, rfl, rfl, (name bs).putAt (u := .one (.omp (rc, 1, n) k u m)) (v := v) ⟨l, bs, rfl, name_at, ha⟩ hv⟩
theorem unslots_put : ∀ (ls : List (Loc × LS)) (ds : List DL) (n : Nat) {G : Ghost}, Rep C G N used st a w → (∀ k, ¬ used (rc, 1, k)) → All2 (fun (p : Loc × LS) d => SlotRep G a w p.1 p.2 d) ls ds →
    ∃ G', G'.ρ = G.ρ ∧ G'.β = G.β ∧ Rep C G' N (usedF used rc 1 n) (unslots rc n ls ds ++ st) a w
  | [], [], n, G, hr, hn, h => ⟨G, rfl, rfl, hr.mono fun _ h => .inl h⟩
  | [], _ :: _, n, G, hr, hn, h => by cases h
  | _ :: _, [], n, G, hr, hn, h => by cases h
  | (l, s) :: ls, d :: ds, n, G, hr, hn, h => by
    cases h with
    | cons h1 h2 =>
      obtain ⟨G1, e1, e2, hr1⟩ := unslots_put ls ds (n + 1) hr hn h2
      obtain ⟨G2, e3, e4, hr2⟩ := slot_put hr1 (hn n) (h1.ghost e1 e2)
      exact ⟨G2, e3.trans e1, e4.trans e2, hr2⟩
end
end Go.Proofs.Ytbgefphoochgcaa.FE
