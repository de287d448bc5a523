/- FE, part 28: all operations. -/
import Derived.Test.YtbgefphoochgcaaFeClo
namespace Go.Proofs.Ytbgefphoochgcaa.FE
open Go
set_option linter.unusedVariables false
set_option linter.unusedSimpArgs false
section
variable {Ω : Type} {C : CloRep Ω} {P : Program} {T : Tab} {N : Nat}
variable {rc i : Nat}

/-- What is asked of an operation's text. -/
def noDst : Op → Bool | .store _ _ _ | .insert _ _ _ _ | .mapUpdate _ _ _ _ => true | _ => false
def opB (N : Nat) (o : Oper) : Bool :=
  match o.dst with | some d => and (Nat.blt d N) (not (noDst o.op)) | none => true
theorem opB_dst {o : Oper} (h : opB N o = true) : ∀ d, o.dst = some d → d < N := by
  intro d hd
  simp only [opB, hd, Bool.and_eq_true] at h
  exact Nat.le_of_ble_eq_true h.1
theorem opB_none {o : Oper} (h : opB N o = true) (hn : noDst o.op = true) : o.dst = none := by
  cases hd : o.dst with
  | none => rfl
  | some d =>
    simp only [opB, hd, Bool.and_eq_true] at h
    rw [hn] at h
    cases h.2
theorem ok_fail {o : Oper} : OpOk P C N rc i o .fail := fun _ _ h => h.elim
theorem opP_ok (hT : TabOk P T) {Φ : Env Ω} (hΦ : EnvOk P C Φ) {own : Nat} {frz : Bool} {o : Oper} (hb : opB N o = true) : OpOk P C N rc i o (opP T Φ own frz rc i o) := by
  obtain ⟨dst, op, ty, pos, after, guard⟩ := o
  have hd : ∀ d, dst = some d → d < N := opB_dst hb
  cases op with
  | move x => (intro G used st a w acc rs ws hr hf h K Q hK; exact ok_move hd hr hf h K Q hK)
  | assign x => (intro G used st a w acc rs ws hr hf h K Q hK; exact ok_assign hd frz hr hf h K Q hK)
  | pick c a b => (intro G used st a w acc rs ws hr hf h K Q hK; exact ok_pick hd hr hf h K Q hK)
  | alloc t => (intro G used st a w acc rs ws hr hf h K Q hK; exact ok_alloc hT hd hr hf h K Q hK)
  | box t x => (intro G used st a w acc rs ws hr hf h K Q hK; exact ok_box hT hd hr hf h K Q hK)
  | build t ps => (intro G used st a w acc rs ws hr hf h K Q hK; exact ok_build hT hd hr hf h K Q hK)
  | buildSlice t n ps => (intro G used st a w acc rs ws hr hf h K Q hK; exact ok_buildSlice hT hd hr hf h K Q hK)
  | insert t m k x => (intro G used st a w acc rs ws hr hf h K Q hK; exact ok_mapUpdateC hT (opB_none hb rfl) (fun ρ => rfl) hr hf h K Q hK)
  | mapUpdate t m k x => (intro G used st a w acc rs ws hr hf h K Q hK; exact ok_mapUpdateC hT (opB_none hb rfl) (fun ρ => rfl) hr hf h K Q hK)
  | load t x => (intro G used st a w acc rs ws hr hf h K Q hK; exact ok_load hT hd hr hf h K Q hK)
  | store t a x => (intro G used st a w acc rs ws hr hf h K Q hK; exact ok_store hT (opB_none hb rfl) hr hf h K Q hK)
  | nilCheck x => (intro G used st a w acc rs ws hr hf h K Q hK; exact ok_nilCheck hd hr hf h K Q hK)
  | binOp op t x y yt => (intro G used st a w acc rs ws hr hf h K Q hK; exact ok_binOp hT hd hr hf h K Q hK)
  | convert s t x => (intro G used st a w acc rs ws hr hf h K Q hK; exact ok_convert hT hd hr hf h K Q hK)
  | unOp op t x => (intro G used st a w acc rs ws hr hf h K Q hK; exact ok_unOp hd hr hf h K Q hK)
  | makeMap t r =>
    cases r with
    | none => (intro G used st a w acc rs ws hr hf h K Q hK; exact ok_makeMap hT hd hr hf h K Q hK)
    | some r => (intro G used st a w acc rs ws hr hf h K Q hK; exact ok_fail hr hf h K Q hK)
  | makeSlice t l c => (intro G used st a w acc rs ws hr hf h K Q hK; exact ok_makeSlice hT hd hr hf h K Q hK)
  | slice t x lo hi mx =>
    cases mx with
    | none => (intro G used st a w acc rs ws hr hf h K Q hK; exact ok_slice hT hd hr hf h K Q hK)
    | some r => (intro G used st a w acc rs ws hr hf h K Q hK; exact ok_fail hr hf h K Q hK)
  | makeFunc fn first cap =>
    cases fn with
    | func f => (intro G used st a w acc rs ws hr hf h K Q hK; exact ok_makeFunc hd hr hf h K Q hK)
    | _ => (intro G used st a w acc rs ws hr hf h K Q hK; exact ok_fail hr hf h K Q hK)
  | fieldAddr t x f => (intro G used st a w acc rs ws hr hf h K Q hK; exact ok_fieldAddr hT hd hr hf h K Q hK)
  | indexAddr t x ix => (intro G used st a w acc rs ws hr hf h K Q hK; exact ok_indexAddr hT hd hr hf h K Q hK)
  | lookup t x ix ok => (intro G used st a w acc rs ws hr hf h K Q hK; exact ok_lookup hT hd hr hf h K Q hK)
  | extract x j => (intro G used st a w acc rs ws hr hf h K Q hK; exact ok_extract hd hr hf h K Q hK)
  | call c =>
    intro G used st a w acc rs ws hr hf h K Q hK
    cases hc : c.callee with
    | builtin b =>
      cases b with
      | len => simp only [opP, hc] at h; exact ok_len hT hc hd hr hf h K Q hK
      | append => simp only [opP, hc] at h; exact ok_append hT hc hd hr hf h K Q hK
      | clear => simp only [opP, hc] at h; exact ok_clear hT hc hr hf h K Q hK
      | max => simp only [opP, hc] at h; exact ok_max hc hd hr hf h K Q hK
      | min => simp only [opP, hc] at h; exact ok_min hc hd hr hf h K Q hK
      | _ => simp only [opP, hc] at h; exact h.elim
    | value f =>
      cases f with
      | func f =>
        simp only [opP, hc] at h
        split at h
        · rename_i fn hfn
          exact ok_call (hΦ.funs f fn hfn) hc hd hr hf h K Q hK
        · obtain ⟨hh, hhf, h⟩ := runs_opt h
          rcases (runs_ite h).symm with ⟨_, h⟩ | ⟨ho, h⟩
          · exact h.elim
          obtain ⟨x, hx0, h⟩ := runs_opt h
          obtain ⟨v, acc1, h, hv, -⟩ := runs_opG hr h
          split at h
          · rename_i _ g caps
            obtain ⟨fn, hfn, h⟩ := runs_opt h
            exact ok_callHC (hΦ.funs g fn hfn) (hΦ.hofs f hh hhf) hc hd hr hf hx0 ho hv h hK
          · rename_i cl hcl
            cases hsc : and (allB scalar hh.as) (allB lookR hh.sig.res) with
            | false => rw [hsc] at h; exact ok_callHV (hΦ.clo cl hcl) (hΦ.hofs f hh hhf) hc hd hr hf hx0 ho hv h hK
            | true =>
              rw [hsc] at h
              rw [Bool.and_eq_true] at hsc
              exact ok_callHL (hΦ.clo cl hcl) (hΦ.hofs f hh hhf) hc hd hsc.1 hsc.2 hr hf hx0 ho hv h hK
          · exact h.elim
      | tmp t =>
        simp only [opP, hc] at h
        obtain ⟨v, acc1, h, hv, -⟩ := runs_opG hr h
        split at h
        · rename_i _ g caps
          obtain ⟨fn, hfn, h⟩ := runs_opt h
          exact ok_callC (hΦ.funs g fn hfn) hc hd hr hf hv h hK
        · rename_i cl hcl
          exact ok_callV (hΦ.clo cl hcl) hc hd hr hf hv h hK
        · exact h.elim
      | _ => simp only [opP, hc] at h; exact h.elim
    | invoke r n => simp only [opP, hc] at h; exact h.elim
  | _ => (intro G used st a w acc rs ws hr hf h K Q hK; exact ok_fail hr hf h K Q hK)
end
end Go.Proofs.Ytbgefphoochgcaa.FE
