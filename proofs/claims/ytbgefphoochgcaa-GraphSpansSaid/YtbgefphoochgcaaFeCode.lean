/- FE, part 34: code: loops' rule; the ghost cut. -/
import Derived.Test.YtbgefphoochgcaaFeRegF
namespace Go.Proofs.Ytbgefphoochgcaa.FE
open Go
set_option linter.unusedVariables false
set_option linter.unusedSimpArgs false

/-- A loop, at the begin of a round. -/
def LoopAt (P : Program) (c : Code) (Q : Exit → Act → World → Prop) (a : Act) (w : World) : Prop :=
  ∀ (b : Frame) (k : List Item) (cs : List Frame), ∃ e a' w', Q e a' w' ∧ Arrives P (lone (b.at a (.code c :: .inLoop c :: k)) cs w) b k cs e a' w'
section
variable {P : Program} {c : Code} {Q : Exit → Act → World → Prop} {a : Act} {w : World}
theorem loop_round (h : c.wp P (Exit.then (LoopAt P c Q) Q) a w) : LoopAt P c Q a w := by
  intro b k cs
  obtain ⟨e, a₁, w₁, hq, harr⟩ := h b (.inLoop c :: k) cs
  cases e with
  | normal =>
    obtain ⟨e₂, a₂, w₂, hq₂, harr₂⟩ := hq b k cs
    exact ⟨e₂, a₂, w₂, hq₂, .of_steps (Steps.trans harr (.one step_inLoop)) harr₂⟩
  | exit id => exact ⟨_, a₁, w₁, hq, .pass (x := .inLoop c) rfl (fun _ _ => .inl (by simp)) harr⟩
  | goto l => exact ⟨_, a₁, w₁, hq, .pass (x := .inLoop c) rfl (fun _ _ => .inl (by simp)) harr⟩
  | ret => exact ⟨_, a₁, w₁, hq, .pass (x := .inLoop c) rfl (fun _ _ => .inl (by simp)) harr⟩
  | panic ch => exact ⟨_, a₁, w₁, hq, .pass (x := .inLoop c) rfl (fun _ _ => .inl (by simp)) harr⟩
  | outgrown => exact ⟨_, a₁, w₁, hq, .pass (x := .inLoop c) rfl (fun _ _ => .inl (by simp)) harr⟩
theorem loop_start (h : LoopAt P c Q a w) : (Code.loop c).wp P Q a w := by
  intro b k cs
  obtain ⟨e, a', w', hq, harr⟩ := h b k cs
  exact ⟨e, a', w', hq, .of_steps (.one step_loop) harr⟩
end

/-! ### the ids of what stands somewhere -/
section
variable {Ω : Type} {C : CloRep Ω} {N : Nat} {G : Ghost} {used : Id → Prop} {st : S Ω} {a : Act} {w : World}
def idsL : Leaf Ω → List Id
  | .arr id _ _ => [id] | .omp id _ _ _ => [id] | .ref id _ _ => [id] | .ali _ id => [id] | .avw _ id _ _ _ => [id] | .aptr _ id _ _ _ => [id]
  | .clo _ caps => caps.map (·.1) | .ent _ id0 id _ => [id0, id] | _ => []
def ids1 : AV Ω → List Id
  | .one l => idsL l
  | .agg ls => ls.flatMap idsL
  | .tup vs => []
def idsV : AV Ω → List Id
  | .one l => idsL l
  | .agg ls => ls.flatMap idsL
  | .tup vs => vs.flatMap fun p => ids1 (avOf p.1 p.2)
def Ghost.known (G : Ghost) (id : Id) : Prop := G.Γ id ≠ none ∨ G.β id ≠ none
theorem RepL.known {at_ : Option Loc} {l : Leaf Ω} {v : Value} (h : RepL C G w at_ l v) : ∀ id ∈ idsL l, G.known id := by
  intro id hid
  cases l with
  | arr id' e xs =>
    obtain rfl : id = id' := by simpa [idsL] using hid
    obtain ⟨_, _, ⟨bs, h⟩, _⟩ := h
    exact .inl (by rw [h]; simp)
  | omp id' k u m =>
    obtain rfl : id = id' := by simpa [idsL] using hid
    obtain ⟨_, bs, _, h, _⟩ := h
    exact .inl (by rw [h]; simp)
  | ref id' off n =>
    obtain rfl : id = id' := by simpa [idsL] using hid
    obtain ⟨b, h, _⟩ := h
    exact .inr (by rw [h]; simp)
  | ali l id' =>
    obtain rfl : id = id' := by simpa [idsL] using hid
    obtain ⟨⟨bs, h⟩, _⟩ := h
    exact .inl (by rw [h]; simp)
  | avw l id' sz lo hi =>
    obtain rfl : id = id' := by simpa [idsL] using hid
    obtain ⟨ad, len, cap, bs, h, _⟩ := h
    exact .inl (by rw [h]; simp)
  | aptr l id' sz n off =>
    obtain rfl : id = id' := by simpa [idsL] using hid
    obtain ⟨b, o, len, cap, bs, h, _⟩ := h
    exact .inl (by rw [h]; simp)
  | clo f caps =>
    obtain ⟨bs, hl, h, _⟩ := h
    simp only [idsL, List.mem_map] at hid
    obtain ⟨c, hc, rfl⟩ := hid
    obtain ⟨i, hi, e⟩ := List.getElem_of_mem hc
    have hi' : i < bs.length := by omega
    have := h i bs[i] c (List.getElem?_eq_getElem hi') (by rw [List.getElem?_eq_getElem hi, e])
    exact .inr (by rw [this]; simp)
  | ent l id0 id' j =>
    obtain ⟨u, bs, n, h1, ⟨bs0, h2⟩, _⟩ := h
    simp only [idsL, List.mem_cons, List.not_mem_nil, or_false] at hid
    rcases hid with rfl | rfl
    · exact .inl (by rw [h2]; simp)
    · exact .inl (by rw [h1]; simp)
  | _ => cases hid
def Ghost.cut (G : Ghost) (p : Id → Bool) : Ghost := { G with Γ := fun id => if p id then G.Γ id else none, β := fun id => if p id then G.β id else none }
theorem RepL.cut {p : Id → Bool} {at_ : Option Loc} {l : Leaf Ω} {v : Value} (h : RepL C G w at_ l v) (hp : ∀ id ∈ idsL l, p id = true) : RepL C (G.cut p) w at_ l v := by
  have gΓ : ∀ {id x}, p id = true → G.Γ id = some x → (G.cut p).Γ id = some x := fun h1 h2 => by simp [Ghost.cut, h1, h2]
  have gβ : ∀ {id x}, p id = true → G.β id = some x → (G.cut p).β id = some x := fun h1 h2 => by simp [Ghost.cut, h1, h2]
  cases l with
  | arr id e xs => obtain ⟨l, e1, ⟨bs, h1⟩, h2⟩ := h; exact ⟨l, e1, ⟨bs, gΓ (hp id (by simp [idsL])) h1⟩, h2⟩
  | omp id k u m => obtain ⟨l, bs, e1, h1, h2⟩ := h; exact ⟨l, bs, e1, gΓ (hp id (by simp [idsL])) h1, h2⟩
  | ref id off n => obtain ⟨b, h1, h2⟩ := h; exact ⟨b, gβ (hp id (by simp [idsL])) h1, h2⟩
  | ali l id => obtain ⟨⟨bs, h1⟩, h2⟩ := h; exact ⟨⟨bs, gΓ (hp id (by simp [idsL])) h1⟩, h2⟩
  | avw l id sz lo hi => obtain ⟨ad, len, cap, bs, h1, h2⟩ := h; exact ⟨ad, len, cap, bs, gΓ (hp id (by simp [idsL])) h1, h2⟩
  | aptr l id sz n off => obtain ⟨b, o, len, cap, bs, h1, h2⟩ := h; exact ⟨b, o, len, cap, bs, gΓ (hp id (by simp [idsL])) h1, h2⟩
  | clo f caps =>
    obtain ⟨bs, hl, h1, h2⟩ := h
    exact ⟨bs, hl, fun i b c hb hc => gβ (hp c.1 (by simp only [idsL, List.mem_map]; exact ⟨c, List.mem_of_getElem? hc, rfl⟩)) (h1 i b c hb hc), h2⟩
  | ent l id0 id j => obtain ⟨u, bs, n, h1, ⟨bs0, h2⟩, h3⟩ := h; exact ⟨u, bs, n, gΓ (hp id (by simp [idsL])) h1, ⟨bs0, gΓ (hp id0 (by simp [idsL])) h2⟩, h3⟩
  | _ => exact h
theorem ids_all2 {ls : List (Leaf Ω)} {vs : List Value} (h : All2 (RepL C G w none) ls vs) : ∀ id ∈ ls.flatMap idsL, G.known id := by
  induction h with
  | nil => intro id h; cases h
  | cons h _ ih =>
    intro id hid
    rw [List.flatMap_cons, List.mem_append] at hid
    rcases hid with h' | h'
    · exact h.known id h'
    · exact ih id h'
theorem RepAV1.known {at_ : Option Loc} {u : AV Ω} {v : Value} (h : RepAV1 C G w at_ u v) : ∀ id ∈ ids1 u, G.known id := by
  cases u with
  | one l => exact RepL.known (C := C) (w := w) h
  | agg ls => obtain ⟨vs, _, h⟩ := h; exact ids_all2 h
  | tup vs => exact h.elim
theorem All2.cut {p : Id → Bool} {ls : List (Leaf Ω)} {vs : List Value} (h : All2 (RepL C G w none) ls vs) (hp : ∀ id ∈ ls.flatMap idsL, p id = true) : All2 (RepL C (G.cut p) w none) ls vs := by
  induction h with
  | nil => exact .nil
  | cons h _ ih =>
    rw [List.flatMap_cons] at hp
    exact .cons (h.cut fun id hi => hp id (List.mem_append.2 (.inl hi))) (ih fun id hi => hp id (List.mem_append.2 (.inr hi)))
theorem RepAV1.cut {p : Id → Bool} {at_ : Option Loc} {u : AV Ω} {v : Value} (h : RepAV1 C G w at_ u v) (hp : ∀ id ∈ ids1 u, p id = true) : RepAV1 C (G.cut p) w at_ u v := by
  cases u with
  | one l => exact RepL.cut (C := C) (w := w) h hp
  | agg ls => obtain ⟨vs, e, h⟩ := h; exact ⟨vs, e, All2.cut h hp⟩
  | tup vs => exact h.elim
theorem RepAV.known {at_ : Option Loc} {u : AV Ω} {v : Value} (h : RepAV C G w at_ u v) : ∀ id ∈ idsV u, G.known id := by
  cases u with
  | one l => exact RepAV1.known (C := C) (w := w) (u := .one l) h
  | agg ls => exact RepAV1.known (C := C) (w := w) (at_ := at_) (u := .agg ls) h
  | tup ps =>
    obtain ⟨us, _, h⟩ := h
    generalize us.toList = vs at h
    induction h with
    | nil => intro id h; cases h
    | cons h _ ih =>
      intro id hid
      simp only [idsV, List.flatMap_cons, List.mem_append] at hid ih
      rcases hid with h' | h'
      · exact RepAV1.known h id h'
      · exact ih id h'
theorem RepAV.cut {p : Id → Bool} {at_ : Option Loc} {u : AV Ω} {v : Value} (h : RepAV C G w at_ u v) (hp : ∀ id ∈ idsV u, p id = true) : RepAV C (G.cut p) w at_ u v := by
  cases u with
  | one l => exact RepAV1.cut (C := C) (w := w) (u := .one l) h hp
  | agg ls => exact RepAV1.cut (C := C) (w := w) (at_ := at_) (u := .agg ls) h hp
  | tup ps =>
    obtain ⟨us, e, h⟩ := h
    refine ⟨us, e, ?_⟩
    generalize us.toList = vs at h ⊢
    induction h with
    | nil => exact .nil
    | cons h _ ih =>
      simp only [idsV, List.flatMap_cons, List.mem_append] at hp ih
      exact .cons (RepAV1.cut h fun id hi => hp id (.inl hi)) (ih fun id hi => hp id (.inr hi))
theorem av1_tup {at_ : Option Loc} {u : AV Ω} {v : Value} (h : RepAV1 C G w at_ u v) : RepAV C G w at_ u v := by
  cases u with
  | one l => exact h
  | agg ls => exact h
  | tup vs => exact h.elim
theorem ids_one {at_ : Option Loc} {u : AV Ω} {v : Value} (h : RepAV1 C G w at_ u v) : ids1 u = idsV u := by
  cases u with
  | one l => rfl
  | agg ls => rfl
  | tup vs => exact h.elim
theorem RepAt.known {l : Loc} {u : AV Ω} (h : RepAt C G a w l u) : ∀ id ∈ idsV u, G.known id := by
  intro id hid
  cases l with
  | tmp t => exact RepAV.known (C := C) (w := w) (at_ := some (.tmp t)) h id hid
  | comp t n =>
    rcases h with h | ⟨v, h⟩
    · subst h; cases hid
    · exact (av1_tup h).known id hid
  | box id' j =>
    rcases h with h | ⟨b, n, v, _, _, h⟩
    · subst h; cases hid
    · exact (av1_tup h).known id hid
  | om =>
    rcases h with h | ⟨s, h, _⟩ <;> subst h <;> cases hid
theorem RepAt.cut {p : Id → Bool} {l : Loc} {u : AV Ω} (h : RepAt C G a w l u) (hp : ∀ id ∈ idsV u, p id = true) (hl : ∀ id j, l = .box id j → u = .one .dead ∨ p id = true) : RepAt C (G.cut p) a w l u := by
  cases l with
  | tmp t => exact RepAV.cut (C := C) (w := w) (at_ := some (.tmp t)) h hp
  | comp t n =>
    rcases h with h | ⟨v, h⟩
    · exact .inl h
    · exact .inr ⟨v, h.cut (by rw [ids_one h]; exact hp)⟩
  | box id' j =>
    rcases h with h | ⟨b, n, v, h1, h2, h⟩
    · exact .inl h
    · rcases hl id' j rfl with hd | hd
      · exact .inl hd
      · exact .inr ⟨b, n, v, by simp [Ghost.cut, hd, h1], h2, h.cut (by rw [ids_one h]; exact hp)⟩
  | om => exact h
/-- The ghost is cut: what stands behind is dead, or stood there and knows only ids that are kept. -/
theorem Rep.cut {p : Id → Bool} {st2 : S Ω} (hr : Rep C G N used st a w) (h : ∀ l, S.get st2 l = .one .dead ∨ (S.get st2 l = S.get st l ∧ (∀ id ∈ idsV (S.get st l), p id = true) ∧ ∀ id j, l = .box id j → p id = true)) : Rep C (G.cut p) N (fun id => p id = true) st2 a w where
  at_ l := by
    rcases h l with h | ⟨h1, h2, h3⟩
    · rw [h]; exact RepAt.dead'
    · rw [h1]; exact (hr.at_ l).cut h2 fun id j e => .inr (h3 id j e)
  size := hr.size
  defers := hr.defers
  box id b n hb := by
    have : G.β id = some (b, n) := by
      have hb' : (if p id then G.β id else none) = some (b, n) := hb
      split at hb'
      · exact hb'
      · cases hb'
    exact hr.box id b n this
  usedΓ id hi := by
    cases hp : p id with
    | true => rfl
    | false => exact absurd (show (if p id then G.Γ id else none) = none by rw [hp]; rfl) hi
  usedβ id hi := by
    cases hp : p id with
    | true => rfl
    | false => exact absurd (show (if p id then G.β id else none) = none by rw [hp]; rfl) hi
  lt := hr.lt
end
end Go.Proofs.Ytbgefphoochgcaa.FE
