/- FE, part 34a: temporaries that nothing writes keep their value. -/
import Derived.Test.YtbgefphoochgcaaFeRegF
namespace Go.Proofs.Ytbgefphoochgcaa.FE
open Go
set_option linter.unusedVariables false
set_option linter.unusedSimpArgs false
section
variable {P : Program} {ps : List Nat} {ops : Array Oper}
/-- The temporaries of the list stand as they stood. -/
def Keep (ps : List Nat) (a a' : Act) : Prop := ∀ t ∈ ps, a'.tmps.getD t undef = a.tmps.getD t undef
theorem Keep.refl {a : Act} : Keep ps a a := fun _ _ => rfl
theorem Keep.trans {a b c : Act} (h : Keep ps a b) (k : Keep ps b c) : Keep ps a c := fun t ht => (k t ht).trans (h t ht)
def pinO (ps : List Nat) (o : Oper) : Bool := match o.dst with | some d => !(ps.contains d) | none => true
theorem keep_put {o : Oper} (h : pinO ps o = true) {a : Act} {v : Value} : Keep ps a (a.put o.dst v) := by
  intro t ht
  unfold pinO at h
  cases hd : o.dst with
  | none => rfl
  | some d =>
    rw [hd] at h
    refine getD_put_ne fun e => ?_
    subst e
    simp at h
    exact h ht
/-- What is asked at an end, and that those stand as they stood. -/
def KeepQ (ps : List Nat) (a : Act) (Q : Exit → Act → World → Prop) : Exit → Act → World → Prop
  | .normal, a', w' => Q .normal a' w' ∧ Keep ps a a'
  | e, a', w' => Q e a' w'
theorem out_keep {a : Act} {Q : Exit → Act → World → Prop} (h : LetsOut Q) : LetsOut (KeepQ ps a Q) := h
theorem op_keep {o : Oper} (ho : pinO ps o = true) {a a0 : Act} {w : World} {K K' : Act → World → Prop} {Q : Exit → Act → World → Prop} (h : o.wp P a w K Q) (hK : ∀ a' w', K a' w' → Keep ps a a' → K' a' w') : o.wp P a w K' (KeepQ ps a0 Q) := by
  unfold Oper.wp at h ⊢
  cases hr : (execOp a.eval o).run P w with
  | ok x w' =>
    rw [hr] at h
    cases x with
    | value v => exact hK _ _ h (keep_put ho)
    | skip => exact hK _ _ h (keep_put ho)
    | defer d => exact hK _ _ h (keep_put (a := { a with defers := d :: a.defers }) ho)
    | enter f args =>
      refine Calls.mono h fun e w'' h => ?_
      cases e with
      | returned v => exact hK _ _ h (keep_put ho)
      | panicked ch => exact h
      | outgrown => exact h
    | row r args => exact Rows.mono h fun v w'' h => hK _ _ h (keep_put ho)
    | _ => exact h.elim
  | halt x w' =>
    rw [hr] at h
    cases x with
    | panic v => exact h
    | _ => exact h.elim
theorem wpOp_keep (hp : ∀ o ∈ ops.toList, pinO ps o = true) {i : Nat} {a a0 : Act} {w : World} {K K' : Act → World → Prop} {Q : Exit → Act → World → Prop} (h : wpOp P ops Q i K a w) (hK : ∀ a' w', K a' w' → Keep ps a a' → K' a' w') : wpOp P ops (KeepQ ps a0 Q) i K' a w := by
  unfold wpOp at h ⊢
  cases ho : ops[i]? with
  | none => rw [ho] at h; exact hK _ _ h Keep.refl
  | some o =>
    rw [ho] at h
    have hp' := hp o (by simpa using Array.mem_of_getElem? ho)
    simp only at h ⊢
    split at h
    · rename_i hw
      rw [if_pos hw]
      rcases h with h | ⟨h1, h2⟩
      · exact .inl (op_keep hp' h hK)
      · exact .inr ⟨h1, out_keep h2⟩
    · rename_i hw
      rw [if_neg hw]
      exact hK _ _ h (keep_put hp')
theorem wpOps_keep (hp : ∀ o ∈ ops.toList, pinO ps o = true) {a0 : Act} {Q : Exit → Act → World → Prop} : ∀ (l : List Nat) {a : Act} {w : World}, Keep ps a0 a → wpOps P ops Q l a w → wpOps P ops (KeepQ ps a0 Q) l a w
  | [], a, w, hk, h => ⟨h, hk⟩
  | i :: l, a, w, hk, h => by
    rw [wpOps_cons] at h ⊢
    exact wpOp_keep hp h fun a' w' h1 h2 => wpOps_keep hp l (hk.trans h2) h1
theorem wpAny_keep (hp : ∀ o ∈ ops.toList, pinO ps o = true) {md : Region.Mode} {a0 : Act} {Q : Exit → Act → World → Prop} : ∀ (n : Nat) {l : Array Bool} {a : Act} {w : World}, Keep ps a0 a → wpAny P md ops Q n l a w → wpAny P md ops (KeepQ ps a0 Q) n l a w
  | 0, l, a, w, hk, h => ⟨h.1, h.2, hk⟩
  | n + 1, l, a, w, hk, h => ⟨fun e => ⟨h.1 e, hk⟩, fun i hi => wpOp_keep hp (h.2 i hi) fun a' w' h1 h2 => wpAny_keep hp n (hk.trans h2) h1⟩
end
end Go.Proofs.Ytbgefphoochgcaa.FE
