/- FE, part 26: a call does what the contract says. -/
import Derived.Test.YtbgefphoochgcaaFeY
namespace Go.Proofs.Ytbgefphoochgcaa.FE
open Go
set_option linter.unusedVariables false
set_option linter.unusedSimpArgs false
section
variable {Ω : Type} {C : CloRep Ω} {P : Program} {T : Tab} {N : Nat}
variable {rc i : Nat} {G : Ghost} {used used' : Id → Prop} {st ws : S Ω} {a : Act} {w w' : World} {acc rs : List Loc}
variable {dst : Option Nat} {ty : Nat} {pos : String} {after : Array Edge} {guard : Option (Nat × Bool)}

theorem LSRep.dat {ρ ρ' : Nat → Option Own} {o : Own} {s : LS} {d : DL} {v : Value} (hs : datS s = false) (h : LSRep ρ w o s d v) (hf : ∀ b, ¬ Ow ρ b → ¬ Ow ρ' b) (ho : ∀ b, ρ b = some o → ¬ Ow ρ' b) : DatRep ρ' w s d v := by
  have hfree : Free w (Ow ρ) w (Ow ρ') := fun b _ h => ⟨rfl, hf b h⟩
  cases s with
  | dat t => cases hs
  | arr e =>
    obtain ⟨xs, e, h⟩ := h
    refine ⟨xs, e, ?_⟩
    rcases h with ⟨rfl, rfl⟩ | ⟨b, off, cap, c, el, rfl, hc, hρ, hh, hsz, hx⟩
    · exact ⟨none, 0, rfl, Nat.le_refl _, fun h => absurd rfl h⟩
    · refine ⟨_, cap, rfl, hc, fun _ => ⟨b, off, rfl, ho b hρ, fun j hj => ?_⟩⟩
      obtain ⟨vs, hr, hat⟩ := hx j hj
      exact ⟨vs, hr.mono hfree, c, el, _, hh, hat⟩
  | omp k u =>
    obtain ⟨m, bs, e, b, es, clock, rfl, hρ, hh, hsz, _, hx, _⟩ := h
    refine ⟨m, e, some b, rfl, .inr ⟨b, es, clock, rfl, ho b hρ, hh, hsz, fun j hj => ?_⟩⟩
    obtain ⟨en, he, h1, h2⟩ := hx j hj
    exact ⟨en, he, h1.mono hfree, h2.mono hfree⟩
theorem ResRep.fact {ρ' ρf : Nat → Option Own} {n k : Nat} {r : RS} {ds : List DL} {v : Value} {own : Bool} {l : Loc} (h : ResRep ρ' w n r ds v) (hf : ∀ b, ¬ Ow ρ' b → ¬ Ow ρf b)
    (h1 : own = true → ∀ b, ρ' b = some (.at_ (.comp 0 n)) → ρf b = some (.at_ l)) (h2 : own = false → ∀ b, ρ' b = some (.at_ (.comp 0 n)) → ¬ Ow ρf b)
    (h3 : ∀ b, ρ' b = some (.bx (0, 1, n)) → ρf b = some (.bx (rc, i, k))) (h4 : ∀ j b, ρ' b = some (.at_ (.box (0, 1, n) j)) → ρf b = some (.at_ (.box (rc, i, k) j))) : ResFact ρf w own l rc i k r ds v := by
  cases r with
  | v s =>
    cases s with
    | dat t =>
      obtain ⟨x, e, h⟩ := h
      exact ⟨_, e, x, rfl, RepV.mono (fun b _ h => ⟨rfl, hf b h⟩) h⟩
    | _ =>
      obtain ⟨d, e, h⟩ := h
      refine ⟨d, e, ?_⟩
      cases own with
      | true => exact h.tr (h1 rfl) hf
      | false => exact h.dat rfl hf (h2 rfl)
  | bx ls => exact h.tr h3 (fun j _ b => h4 j b) hf
theorem ResRep.len {ρ : Nat → Option Own} {n : Nat} {r : RS} {ds : List DL} {v : Value} (h : ResRep ρ w n r ds v) : ds.length = r.tys.length := by
  cases r with
  | v s => cases s <;> (obtain ⟨x, rfl, _⟩ := h; rfl)
  | bx ls => obtain ⟨b, c, el, _, _, _, _, hl, _⟩ := h; rw [hl]; simp [RS.tys]
/-- The number of the new id with which a result begins. -/
def kAt (own : Nat) : Nat → Nat → List RS → Nat → Nat
  | k, _, [], _ => k
  | k, _, _ :: _, 0 => k
  | k, n, r :: rs, j + 1 => kAt own (resN (own.testBit n) k r) (n + 1) rs j
def rlOf (own : Nat) (dst : Option Nat) (single : Bool) (n : Nat) : Option Own :=
  match dst, own.testBit n with
  | some d, true => some (.at_ (match single with | true => .tmp d | false => .comp d n))
  | _, _ => none
theorem ResList.facts {ρ' ρf : Nat → Option Own} {own d n0 : Nat} {RS0 : List RS} (hf : ∀ b, ¬ Ow ρ' b → ¬ Ow ρf b)
    (h1 : ∀ n b, own.testBit n = true → ρ' b = some (.at_ (.comp 0 n)) → ρf b = some (.at_ (.comp d n))) (h2 : ∀ n b, own.testBit n = false → ρ' b = some (.at_ (.comp 0 n)) → ¬ Ow ρf b)
    (h3 : ∀ n b, ρ' b = some (.bx (0, 1, n)) → ρf b = some (.bx (rc, i, kAt own n0 0 RS0 n))) (h4 : ∀ n j b, ρ' b = some (.at_ (.box (0, 1, n) j)) → ρf b = some (.at_ (.box (rc, i, kAt own n0 0 RS0 n) j))) :
    ∀ (rs : List RS) (n k : Nat) (ds : List DL) (vs : List Value), (∀ j, kAt own k n rs j = kAt own n0 0 RS0 (n + j) ∨ rs.length ≤ j) → ResList ρ' w n rs ds vs → ResFacts ρf w own d rc i k n rs ds vs
  | [], n, k, ds, vs, hk, h => h
  | r :: rs, n, k, ds, vs, hk, h => by
    obtain ⟨d1, d2, v, vs', rfl, rfl, hr, hrs⟩ := h
    have hk0 : kAt own n0 0 RS0 n = k := by
      rcases hk 0 with h | h
      · exact h.symm
      · simp at h
    refine ⟨d1, d2, v, vs', rfl, rfl, hr.len, hr.fact hf (fun e b => h1 n b e) (fun e b => h2 n b e) (by rw [← hk0]; exact h3 n) (by rw [← hk0]; exact h4 n), ResList.facts hf h1 h2 h3 h4 rs (n + 1) _ d2 vs' (fun j => ?_) hrs⟩
    rcases hk (j + 1) with h | h
    · exact .inl (by rw [show n + 1 + j = n + (j + 1) by omega]; exact h)
    · exact .inr (by simpa using h)
def singleR : List RS → Bool | [_] => true | _ => false
/-- The results, told for the caller. -/
theorem ResAll.out {ρ' ρf : Nat → Option Own} {own n0 : Nat} {rs : List RS} {ds : List DL} {v : Value} (h : ResAll ρ' w rs ds v) (hf : ∀ b, ¬ Ow ρ' b → ¬ Ow ρf b)
    (hb : ∀ b o, ρ' b = some o → o ≠ .ext → (∀ n, o = .at_ (.comp 0 n) → ρf b = rlOf own dst (singleR rs) n) ∧ (∀ n, o = .bx (0, 1, n) → ρf b = some (.bx (rc, i, kAt own n0 0 rs n))) ∧ (∀ n j, o = .at_ (.box (0, 1, n) j) → ρf b = some (.at_ (.box (rc, i, kAt own n0 0 rs n) j)))) :
    ResOut ρf w own rc i n0 dst rs ds v := by
  have h3 : ∀ n b, ρ' b = some (.bx (0, 1, n)) → ρf b = some (.bx (rc, i, kAt own n0 0 rs n)) := fun n b h => (hb b _ h (by simp)).2.1 n rfl
  have h4 : ∀ n j b, ρ' b = some (.at_ (.box (0, 1, n) j)) → ρf b = some (.at_ (.box (rc, i, kAt own n0 0 rs n) j)) := fun n j b h => (hb b _ h (by simp)).2.2 n j rfl
  have h5 : ∀ n b, ρ' b = some (.at_ (.comp 0 n)) → ρf b = rlOf own dst (singleR rs) n := fun n b h => (hb b _ h (by simp)).1 n rfl
  clear hb
  match rs, h, h3, h4, h5 with
  | [], h, _, _, _ => exact h
  | [r], h, h3, h4, h5 =>
    have h' : ResRep ρ' w 0 r ds v := h
    refine ⟨h'.len, fun d hd => h'.fact hf (fun ho b e => ?_) (fun ho b e => ?_) (h3 0) (h4 0)⟩
    · rw [h5 0 b e]; simp [rlOf, hd, ho, singleR]
    · show ¬ (ρf b ≠ none)
      rw [h5 0 b e]; simp [rlOf, hd, ho]
  | r1 :: r2 :: rs, h, h3, h4, h5 =>
    obtain ⟨us, ev, h⟩ := h
    refine fun d hd => ⟨us, ev, ResList.facts hf (fun n b ho e => ?_) (fun n b ho e => ?_) h3 h4 _ 0 n0 ds us.toList (fun j => .inl (by rw [Nat.zero_add])) h⟩
    · rw [h5 n b e]; simp [rlOf, hd, ho, singleR]
    · show ¬ (ρf b ≠ none)
      rw [h5 n b e]; simp [rlOf, hd, ho]
theorem mem_plnL : ∀ {xs : List Pln} {p k : Nat} {x : Pln}, xs[k]? = some x → ∀ l ∈ pln1 rc i (p + k) x, l ∈ plnL rc i p xs
  | [], p, k, x, h, l, hl => by simp at h
  | y :: r, p, k, x, h, l, hl => by
    rw [plnL_cons, List.mem_append]
    cases k with
    | zero =>
      simp at h
      subst h
      exact .inl hl
    | succ k => exact .inr (mem_plnL (p := p + 1) (k := k) (by simpa using h) l (by rw [show p + 1 + k = p + (k + 1) by omega]; exact hl))
theorem two {l : Loc} : ∀ {xs : List Pln} {p k1 k2 : Nat} {x y : Pln}, distL (plnL rc i p xs) = true → xs[k1]? = some x → xs[k2]? = some y → k1 ≠ k2 → l ∈ pln1 rc i (p + k1) x → l ∈ pln1 rc i (p + k2) y → False
  | [], p, k1, k2, x, y, hd, h1, _, _, _, _ => by simp at h1
  | z :: r, p, k1, k2, x, y, hd, h1, h2, hne, hx, hy => by
    rw [plnL_cons] at hd
    obtain ⟨hd1, hd2⟩ := distL_split hd
    cases k1 with
    | zero =>
      cases k2 with
      | zero => exact hne rfl
      | succ k2 =>
        simp at h1
        subst h1
        exact hd1 l hx (mem_plnL (p := p + 1) (k := k2) (by simpa using h2) l (by rw [show p + 1 + k2 = p + (k2 + 1) by omega]; exact hy))
    | succ k1 =>
      cases k2 with
      | zero =>
        simp at h2
        subst h2
        exact hd1 l hy (mem_plnL (p := p + 1) (k := k1) (by simpa using h1) l (by rw [show p + 1 + k1 = p + (k1 + 1) by omega]; exact hx))
      | succ k2 =>
        exact two (l := l) hd2 (k1 := k1) (k2 := k2) (by simpa using h1) (by simpa using h2) (by omega) (by rw [show p + 1 + k1 = p + (k1 + 1) by omega]; exact hx) (by rw [show p + 1 + k2 = p + (k2 + 1) by omega]; exact hy)
theorem plnI_box {sc : Bool} : ∀ {qs : List PS} {xs : List Pln} {vs : List Value}, PlnsOk sc G w qs xs vs → ∀ id ∈ plnI xs, ∃ (k : Nat) (ls : List LS) (b : Nat), xs[k]? = some (Pln.b id ls) ∧ G.β id = some (b, ls.length)
  | [], [], vs, _, id, hi => by cases hi
  | [], _ :: _, _, h, _, _ => h.elim
  | _ :: _, [], _, h, _, _ => h.elim
  | _ :: _, _ :: _, [], h, _, _ => h.elim
  | q :: qs, x :: xs, v :: vs, h, id, hi => by
    have tail : id ∈ plnI xs → ∃ (k : Nat) (ls : List LS) (b : Nat), (x :: xs)[k]? = some (Pln.b id ls) ∧ G.β id = some (b, ls.length) := by
      intro hi
      obtain ⟨k, ls, b, h1, h2⟩ := plnI_box h.2 id hi
      exact ⟨k + 1, ls, b, by simpa using h1, h2⟩
    cases x with
    | b id' ls =>
      simp only [plnI, List.mem_cons] at hi
      rcases hi with rfl | hi
      · cases q with
        | bx ls0 => obtain ⟨⟨rfl, h0, b, hb, hv⟩, _⟩ := h; exact ⟨0, _, b, rfl, hb⟩
        | v s => cases s <;> exact h.1.elim
        | _ => exact h.1.elim
      · exact tail hi
    | _ => exact tail hi
theorem outs_look {VA : Loc → Value → Prop} {ρ' ρf : Nat → Option Own} {G' : Ghost} : ∀ {qs : List PS} {xs : List Pln} {ds : List DL} {vs : List Value} {p : Nat}, allB plainS qs = true → PlnsOk true G w qs xs vs → OutsRep ρ' w' p qs ds vs → OutFacts VA ρf G' w' qs xs ds vs
  | [], [], ds, vs, p, _, h, ho => ⟨rfl, ho.1, ho.2⟩
  | [], _ :: _, _, _, _, _, h, _ => h.elim
  | _ :: _, [], _, _, _, _, h, _ => h.elim
  | _ :: _, _ :: _, _, [], _, _, h, _ => h.elim
  | q :: qs, x :: xs, ds, v :: vs, p, hq, h, ho => by
    obtain ⟨d1, d2, v', vs', rfl, ev, ho1, ho2⟩ := ho
    cases ev
    simp only [allB] at hq
    split at hq
    · rename_i hp
      refine ⟨x, xs, d1, d2, v, vs, rfl, rfl, rfl, ?_, outs_look hq h.2 ho2⟩
      obtain ⟨h, _⟩ := h
      cases q with
      | v s =>
        cases s with
        | dat t =>
          cases x with
          | d d0 => exact ho1
          | t id s' => obtain ⟨_, h, _⟩ := h; cases h
          | _ => exact h.elim
        | _ => cases hp
      | ep t =>
        cases x with
        | d d0 => exact ho1
        | _ => exact h.elim
      | _ => cases hp
    · cases hq
end
end Go.Proofs.Ytbgefphoochgcaa.FE
