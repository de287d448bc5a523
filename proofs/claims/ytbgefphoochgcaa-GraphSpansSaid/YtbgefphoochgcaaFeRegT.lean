/- FE, part 30: regions, in the text's order: done. -/
import Derived.Test.YtbgefphoochgcaaFeReg
namespace Go.Proofs.Ytbgefphoochgcaa.FE
open Go
set_option linter.unusedVariables false
set_option linter.unusedSimpArgs false
section
variable {Ω : Type} {C : CloRep Ω} {P : Program} {T : Tab} {N : Nat} {Φ : Env Ω}
variable {rc : Nat} {used : Id → Prop}

def usedR (used : Id → Prop) (rc i : Nat) : Id → Prop := fun id => used id ∨ ∃ j s, j < i ∧ id = (rc, j, s)
/-- No id of this stamp is in use. -/
def FreshR (used : Id → Prop) (rc : Nat) : Prop := ∀ j s, ¬ used (rc, j, s)
/-- The next stamp: what was made in this region is in use. -/
def usedN (used : Id → Prop) (rc : Nat) : Id → Prop := fun id => used id ∨ id.1 = rc
theorem usedR_fresh {i : Nat} (h : FreshR used rc) : FreshAt (usedR used rc i) rc i := by
  rintro s (h' | ⟨j, s', hj, e⟩)
  · exact h i s h'
  · simp only [Prod.mk.injEq, true_and] at e; omega
theorem usedR_next {i : Nat} : ∀ id, usedAt (usedR used rc i) rc i id → usedR used rc (i + 1) id := by
  rintro id ((h | ⟨j, s, hj, e⟩) | ⟨s, e⟩)
  · exact .inl h
  · exact .inr ⟨j, s, by omega, e⟩
  · exact .inr ⟨i, s, by omega, e⟩
theorem usedR_N {i : Nat} : ∀ id, usedR used rc i id → usedN used rc id := by
  rintro id (h | ⟨j, s, hj, rfl⟩)
  · exact .inl h
  · exact .inr rfl
theorem text_ok (hT : TabOk P T) (hΦ : EnvOk P C Φ) {H : Hints} {rid : Nat} {all : Array Oper} (hB : ∀ o ∈ all.toList, opB N o = true) {Q : Exit → Act → World → Prop} (hf : FreshR used rc) :
    ∀ (r : List Oper) (i : Nat) {G : Ghost} {st st' : S Ω} {a : Act} {w : World} {log log' : List LogRow}, Trace T Φ H rid rc all r i st log st' log' → all.toList.drop i = r → Rep C G N (usedR used rc i) st a w →
      (∀ G' a' w', Fr G.ρ w G'.ρ w' → Rep C G' N (usedN used rc) st' a' w' → Q .normal a' w') → wpOps P all Q (List.range' i r.length) a w
  | [], i, G, st, st', a, w, log, log', ht, hr0, hr, hK => by
    cases ht
    exact hK G a w (Fr.refl _ _) (hr.mono usedR_N)
  | o :: r, i, G, st, st', a, w, log, log', ht, hr0, hr, hK => by
    cases ht with
    | cons h e t =>
      have ho : all.toList[i]? = some o := by
        have h1 : (all.toList.drop i)[0]? = some o := by rw [hr0]; rfl
        rw [List.getElem?_drop] at h1
        simpa using h1
      have ho' : all[i]? = some o := by simpa using ho
      have hr1 : all.toList.drop (i + 1) = r := by
        rw [← List.drop_drop, hr0]; rfl
      rw [List.length_cons, List.range'_succ, wpOps_cons]
      refine step_ok hT hΦ ho' (hB o (List.mem_of_getElem? ho)) hr (usedR_fresh hf) h (fun G' a' w' hfr hrep => ?_)
      exact text_ok hT hΦ hB hf r (i + 1) t hr1 ((hrep.mono usedR_next).congr e) (fun G2 a2 w2 h2 h3 => hK G2 a2 w2 (hfr.trans h2) h3)
/-- A region in the text's order. -/
theorem region_text (hT : TabOk P T) (hΦ : EnvOk P C Φ) {H : Hints} {rid : Nat} {all : Array Oper} (hB : ∀ o ∈ all.toList, opB N o = true) {Q : Exit → Act → World → Prop} (hf : FreshR used rc)
    {G : Ghost} {st st' : S Ω} {a : Act} {w : World} {log log' : List LogRow} (ht : Trace T Φ H rid rc all all.toList 0 st log st' log') (hr : Rep C G N used st a w)
    (hK : ∀ G' a' w', Fr G.ρ w G'.ρ w' → Rep C G' N (usedN used rc) st' a' w' → Q .normal a' w') : (Code.region rid all false).wp P Q a w := by
  refine wp_region ?_
  have := text_ok hT hΦ hB (Q := Q) hf all.toList 0 ht rfl (hr.mono fun _ h => .inl h) hK
  rwa [List.range_eq_range', ← Array.length_toList]
/-- Reading goes on: nothing of memory changes but what is drawn. -/
theorem Rep.drawn {G : Ghost} {st : S Ω} {a : Act} {w : World} (hr : Rep C G N used st a w) (n : Nat) : Rep C G N used st a { w with drawn := n } ∧ Fr G.ρ w G.ρ { w with drawn := n } := by
  have hs : ∀ L, Step G w G { w with drawn := n } L := fun L =>
    ⟨fun _ _ h => h, fun _ _ h => h, rfl, rfl, rfl, Nat.le_refl _, fun _ _ h => ⟨rfl, h⟩, fun _ _ h _ => ⟨rfl, h⟩, fun _ h => ⟨rfl, h⟩, fun _ h _ => ⟨rfl, h⟩, fun b n' id h => ⟨(hr.box id b n' h).1, (hr.box id b n' h).2, fun _ _ => rfl⟩, hr.lt, fun _ _ h _ => h⟩
  exact ⟨Rep.step (ws := []) hr (hs _) (fun l hl => by simp [inL] at hl) (fun _ _ => rfl) hr.size hr.defers (fun _ _ _ h => .inl h) hr.usedΓ hr.usedβ, (hs (fun _ => False)).fr⟩
end
end Go.Proofs.Ytbgefphoochgcaa.FE
