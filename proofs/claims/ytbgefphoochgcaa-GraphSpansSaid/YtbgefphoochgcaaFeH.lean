/- FE, part 8: each operation does in memory what it does to the state: those that change no memory. -/
import Derived.Test.YtbgefphoochgcaaFeG
namespace Go.Proofs.Ytbgefphoochgcaa.FE
open Go
set_option linter.unusedVariables false
set_option linter.unusedSimpArgs false
section
variable {Ω : Type} {C : CloRep Ω} {P : Program} {T : Tab} {N : Nat}

def usedAt (used : Id → Prop) (rc i : Nat) : Id → Prop := fun id => used id ∨ ∃ s, id = (rc, i, s)
def FreshAt (used : Id → Prop) (rc i : Nat) : Prop := ∀ s, ¬ used (rc, i, s)
/-- An operation is right: whatever its program does to the state, memory follows. -/
def OpOk (P : Program) (C : CloRep Ω) (N rc i : Nat) (o : Oper) (p : Prg Ω) : Prop :=
  ∀ {G : Ghost} {used : Id → Prop} {st : S Ω} {a : Act} {w : World} {acc rs : List Loc} {ws : List (Loc × AV Ω)}, Rep C G N used st a w → FreshAt used rc i → p.Runs st acc rs ws →
    ∀ (K : Act → World → Prop) (Q : Exit → Act → World → Prop), (∀ G' a' w', Fr G.ρ w G'.ρ w' → Rep C G' N (usedAt used rc i) (ws ++ st) a' w' → K a' w') → o.wp P a w K Q
section
variable {G G1 : Ghost} {used used' : Id → Prop} {st ws' ws : S Ω} {a : Act} {w : World} {acc rs : List Loc} {rc i : Nat} {o : Oper}
theorem wp_value {v : Value} {w' : World} {K : Act → World → Prop} {Q : Exit → Act → World → Prop} (hrun : (execOp a.eval o).run P w = .ok (.value v) w') (h : K (a.put o.dst v) w') : o.wp P a w K Q := by
  unfold Oper.wp; rw [hrun]; exact h
theorem wp_skip {w' : World} {K : Act → World → Prop} {Q : Exit → Act → World → Prop} (hrun : (execOp a.eval o).run P w = .ok .skip w') (h : K (a.put o.dst undef) w') : o.wp P a w K Q := by
  unfold Oper.wp; rw [hrun]; exact h
/-- The last step of an operation that changes no memory. -/
theorem ok_put (hr : Rep C G N (usedAt used rc i) st a w) (hd : ∀ d, o.dst = some d → d < N) {u : AV Ω} {v : Value}
    (hrun : (execOp a.eval o).run P w = .ok (.value v) w) (hu : ∀ d, o.dst = some d → RepAV C G w (some (.tmp d)) u v) (hp : (putP o u).Runs st acc rs ws)
    {K : Act → World → Prop} {Q : Exit → Act → World → Prop} (hK : ∀ G' a' w', Fr G.ρ w G'.ρ w' → Rep C G' N (usedAt used rc i) (ws ++ st) a' w' → K a' w') : o.wp P a w K Q := by
  refine wp_value hrun ?_
  rcases runs_putP hp with ⟨d, hdst, rfl⟩ | ⟨hdst, rfl⟩
  · rw [hdst]
    exact hK G _ w (Fr.refl _ _) (hr.put (hd d hdst) (hu d hdst))
  · rw [hdst]
    exact hK G _ w (Fr.refl _ _) hr
/-- What is left to show behind a step. -/
theorem hK_step {K : Act → World → Prop} {ws2 : S Ω} {used2 : Id → Prop} (hfr : Fr G.ρ w G1.ρ w) (hK : ∀ G' a' w', Fr G.ρ w G'.ρ w' → Rep C G' N used2 ((ws2 ++ ws') ++ st) a' w' → K a' w') :
    ∀ G' a' w', Fr G1.ρ w G'.ρ w' → Rep C G' N used2 (ws2 ++ (ws' ++ st)) a' w' → K a' w' :=
  fun G' a' w' h hr => hK G' a' w' (hfr.trans h) (by rw [List.append_assoc]; exact hr)
theorem Moves.fr {G' : Ghost} (h : Moves G w G') : Fr G.ρ w G'.ρ w := Step.fr h
theorem Rep.at_op (hr : Rep C G N used st a w) (rc i : Nat) : Rep C G N (usedAt used rc i) st a w := hr.mono fun _ h => .inl h
theorem copyV_rep {x : Operand} {v : AV Ω} {u : Value} (h : RepAV C G w (opLoc x) v u) (at_ : Option Loc) : RepAV C G w at_ (copyV x v) u := by
  cases v with
  | agg ls => cases x <;> exact h
  | tup ps => cases x <;> exact h
  | one l =>
    cases l with
    | arr id e xs =>
      obtain ⟨l', e1, e2, h⟩ := h
      cases x with
      | tmp t => exact ⟨e2, by obtain ⟨ad, cap, rfl, _⟩ := h.header; rfl⟩
      | _ => cases e1
    | omp id k v m =>
      obtain ⟨l', bs, e1, e2, h⟩ := h
      cases x with
      | tmp t => exact ⟨⟨bs, e2⟩, by obtain ⟨b, es, clock, rfl, _⟩ := h; rfl⟩
      | _ => cases e1
    | _ => cases x <;> exact h
end
variable {rc i : Nat} {dst : Option Nat} {ty : Nat} {pos : String} {after : Array Edge} {guard : Option (Nat × Bool)}
theorem ok_move {x : Operand} (hd : ∀ d, dst = some d → d < N) : OpOk P C N rc i ⟨dst, .move x, ty, pos, after, guard⟩ (opG x fun v => putP ⟨dst, .move x, ty, pos, after, guard⟩ (copyV x v)) := by
  intro G used st a w acc rs ws hr hf h K Q hK
  obtain ⟨v, acc', h, hv, _⟩ := runs_opG hr h
  exact ok_put (hr.at_op rc i) hd rfl (fun d _ => copyV_rep hv _) h hK
theorem ok_assign {x : Operand} (hd : ∀ d, dst = some d → d < N) (frz : Bool) : OpOk P C N rc i ⟨dst, .assign x, ty, pos, after, guard⟩
    (opG x fun v => (match frz with | true => freeze x v fun u => putP ⟨dst, .assign x, ty, pos, after, guard⟩ u | false => takeV x (rc, i, 0) v fun u => putP ⟨dst, .assign x, ty, pos, after, guard⟩ u)) := by
  intro G used st a w acc rs ws hr hf h K Q hK
  obtain ⟨v, acc', h, hv, hs⟩ := runs_opG hr h
  cases frz with
  | true =>
    obtain ⟨u, ws', ws2, acc2, G1, rfl, h, hm, _, _, hr1, hu, hn⟩ := runs_freeze hr hv hs h
    exact ok_put (hr1.at_op rc i) hd rfl (fun d _ => hu.any hn) h (hK_step hm.fr hK)
  | false =>
    obtain ⟨u, ws', ws2, acc2, G1, rfl, h, hm, _, hr1, hu⟩ := runs_take hr hv hs (match dst with | some d => .tmp d | none => .om) (hf 0) (used' := usedAt used rc i) (fun _ h => .inl h) (.inr ⟨0, rfl⟩) h
    exact ok_put hr1 hd rfl (fun d hd' => by obtain rfl : dst = some d := hd'; exact hu) h (hK_step hm.fr hK)
theorem boolOf_runs {st : S Ω} {v : AV Ω} {f : Bool → Prg Ω} {acc rs : List Loc} {ws : List (Loc × AV Ω)} (h : (boolOf v f).Runs st acc rs ws) : ∃ b, v = .one (.dat .bool b) ∧ (f b).Runs st acc rs ws := by
  unfold boolOf at h
  split at h
  · exact ⟨_, rfl, h⟩
  · exact h.elim
theorem intOf_runs {st : S Ω} {v : AV Ω} {f : Int → Prg Ω} {acc rs : List Loc} {ws : List (Loc × AV Ω)} (h : (intOf v f).Runs st acc rs ws) : ∃ k n, v = .one (.dat (.int k) n) ∧ (f n).Runs st acc rs ws := by
  unfold intOf at h
  split at h
  · exact ⟨_, _, rfl, h⟩
  · exact h.elim
theorem dat_int {G : Ghost} {w : World} {at_ : Option Loc} {k : IntKind} {n : Int} {v : Value} (h : RepAV C G w at_ (.one (.dat (.int k) n)) v) : v = .int k n := by
  have : [v] = [Value.int k n] := h
  simpa using this
theorem dat_bool {G : Ghost} {w : World} {at_ : Option Loc} {b : Bool} {v : Value} (h : RepAV C G w at_ (.one (.dat .bool b)) v) : v = .bool b := by
  have : [v] = [Value.bool b] := h
  simpa using this
theorem dat_str {G : Ghost} {w : World} {at_ : Option Loc} {b : ByteArray} {v : Value} (h : RepAV C G w at_ (.one (.dat .str b)) v) : v = .string b := by
  have : [v] = [Value.string b] := h
  simpa using this
theorem ok_pick {c x y : Operand} (hd : ∀ d, dst = some d → d < N) : OpOk P C N rc i ⟨dst, .pick c x y, ty, pos, after, guard⟩
    (opG c fun vc => boolOf vc fun b => .ite b (opG x fun v => putP ⟨dst, .pick c x y, ty, pos, after, guard⟩ (copyV x v)) (opG y fun v => putP ⟨dst, .pick c x y, ty, pos, after, guard⟩ (copyV y v))) := by
  intro G used st a w acc rs ws hr hf h K Q hK
  obtain ⟨vc, acc', h, hvc, _⟩ := runs_opG hr h
  obtain ⟨b, rfl, h⟩ := boolOf_runs h
  have hc := dat_bool hvc
  cases b with
  | true =>
    obtain ⟨v, acc2, h, hv, _⟩ := runs_opG (f := fun v => putP ⟨dst, .pick c x y, ty, pos, after, guard⟩ (copyV x v)) hr h
    exact ok_put (v := a.eval x) (hr.at_op rc i) hd (by simp [execOp, hc, asBool, bind, Sem.bind, pure]) (fun d _ => copyV_rep hv _) h hK
  | false =>
    obtain ⟨v, acc2, h, hv, _⟩ := runs_opG (f := fun v => putP ⟨dst, .pick c x y, ty, pos, after, guard⟩ (copyV y v)) hr h
    exact ok_put (v := a.eval y) (hr.at_op rc i) hd (by simp [execOp, hc, asBool, bind, Sem.bind, pure]) (fun d _ => copyV_rep hv _) h hK
section
variable {G : Ghost} {used : Id → Prop} {st ws : S Ω} {a : Act} {w : World} {acc rs : List Loc} {o : Oper} {K : Act → World → Prop} {Q : Exit → Act → World → Prop}
theorem beq_dec (n m : Int) : (n == m) = decide (n = m) := by by_cases h : n = m <;> simp [h]
/-- The last step, where a datum comes out. -/
theorem fin_dat (hd : ∀ d, o.dst = some d → d < N) (hr : Rep C G N used st a w) (hK : ∀ G' a' w', Fr G.ρ w G'.ρ w' → Rep C G' N (usedAt used rc i) (ws ++ st) a' w' → K a' w')
    {t : Ty} {x : El t} {v : Value} (hp : (putP o (.one (.dat t x))).Runs st acc rs ws) (hrun : (execOp a.eval o).run P w = .ok (.value v) w) (hu : RepC w G.O t x [v]) : o.wp P a w K Q :=
  ok_put (u := .one (.dat t x)) (hr.at_op rc i) hd hrun (fun d _ => hu) hp hK
theorem fin_any (hd : ∀ d, o.dst = some d → d < N) (hr : Rep C G N used st a w) (hK : ∀ G' a' w', Fr G.ρ w G'.ρ w' → Rep C G' N (usedAt used rc i) (ws ++ st) a' w' → K a' w')
    {u : AV Ω} {v : Value} (hp : (putP o u).Runs st acc rs ws) (hn : noOwn u) (hrun : (execOp a.eval o).run P w = .ok (.value v) w) (hu : RepAV C G w none u v) : o.wp P a w K Q :=
  ok_put (hr.at_op rc i) hd hrun (fun d _ => hu.any hn) hp hK
theorem ok_binInt {op : BinOp} {t yt : Nat} {x y : Operand} {k : IntKind} {n m : Int} (hd : ∀ d, dst = some d → d < N)
    (hr : Rep C G N used st a w) (hx : a.eval x = .int k n) (hy : a.eval y = .int k m)
    (h : (arithP op k n m fun v => putP ⟨dst, .binOp op t x y yt, ty, pos, after, guard⟩ v).Runs st acc rs ws)
    (hK : ∀ G' a' w', Fr G.ρ w G'.ρ w' → Rep C G' N (usedAt used rc i) (ws ++ st) a' w' → K a' w') : (⟨dst, .binOp op t x y yt, ty, pos, after, guard⟩ : Oper).wp P a w K Q := by
  cases op
  case quo =>
    cases hm : decide (m = 0) with
    | true => simp only [arithP, hm] at h; exact h.elim
    | false =>
      simp only [arithP, hm] at h
      have hm' : m ≠ 0 := by simpa using hm
      exact fin_dat hd hr hK h (by simp [execOp, hx, hy, Go.binOp, eqGuard, Op.intDiv, hm', Sem.run, bind, Sem.bind, pure]) rfl
  case rem =>
    cases hm : decide (m = 0) with
    | true => simp only [arithP, hm] at h; exact h.elim
    | false =>
      simp only [arithP, hm] at h
      have hm' : m ≠ 0 := by simpa using hm
      exact fin_dat hd hr hK h (by simp [execOp, hx, hy, Go.binOp, eqGuard, Op.intDiv, hm', Sem.run, bind, Sem.bind, pure]) rfl
  case shl =>
    cases hm : decide (0 ≤ m) with
    | false => simp only [arithP, hm] at h; exact h.elim
    | true =>
      simp only [arithP, hm] at h
      have hm' : ¬ m < 0 := by have := of_decide_eq_true hm; omega
      exact fin_dat hd hr hK h (by simp [execOp, hx, hy, Go.binOp, eqGuard, Op.shift, hm', Sem.run, bind, Sem.bind, pure]) rfl
  case shr =>
    cases hm : decide (0 ≤ m) with
    | false => simp only [arithP, hm] at h; exact h.elim
    | true =>
      simp only [arithP, hm] at h
      have hm' : ¬ m < 0 := by have := of_decide_eq_true hm; omega
      exact fin_dat hd hr hK h (by simp [execOp, hx, hy, Go.binOp, eqGuard, Op.shift, hm', Sem.run, bind, Sem.bind, pure]) rfl
  case eql => exact fin_dat hd hr hK h (v := .bool (n == m)) (by simp [execOp, hx, hy, Go.binOp, eqGuard, Op.intCmp, Sem.run, bind, Sem.bind, pure]) (by simp only [RepC, beq_dec])
  case neq => exact fin_dat hd hr hK h (v := .bool (n != m)) (by simp [execOp, hx, hy, Go.binOp, eqGuard, Op.intCmp, Sem.run, bind, Sem.bind, pure]) (by simp only [RepC, bne, beq_dec])
  all_goals first
    | exact h.elim
    | exact fin_dat hd hr hK h (by simp [execOp, hx, hy, Go.binOp, eqGuard, Op.intArith, Op.intCmp, Op.intBits, Sem.run, bind, Sem.bind, pure]; try rfl) rfl
end
end
end Go.Proofs.Ytbgefphoochgcaa.FE
