/- FE, part 30: closures: made, called, handed over. -/
import Derived.Test.YtbgefphoochgcaaFeExt
namespace Go.Proofs.Ytbgefphoochgcaa.FE
open Go
set_option linter.unusedVariables false
set_option linter.unusedSimpArgs false
section
variable {Ω : Type} {C : CloRep Ω} {P : Program} {T : Tab} {N : Nat}
variable {rc i : Nat} {dst : Option Nat} {ty : Nat} {pos : String} {after : Array Edge} {guard : Option (Nat × Bool)}
variable {G G1 : Ghost} {used used2 : Id → Prop} {st ws : S Ω} {a : Act} {w w' : World} {acc rs : List Loc} {K : Act → World → Prop} {Q : Exit → Act → World → Prop} {ρ ρ' : Nat → Option Own}
theorem capG_runs (hr : Rep C G N used st a w) : ∀ {os : List Operand} {f : List (Id × Nat × Nat) → Prg Ω} {acc : List Loc}, (capG os f).Runs st acc rs ws →
    ∃ (cs : List (Id × Nat × Nat)) (acc' : List Loc) (bs : List Nat), (f cs).Runs st acc' rs ws ∧ bs.length = cs.length ∧ (∀ (j : Nat) b c, bs[j]? = some b → cs[j]? = some c → G.β c.1 = some (b, c.2.2)) ∧ os.map a.eval = (bs.zip cs).map fun p => Value.pointer (some ⟨p.1, p.2.2.1, none⟩)
  | [], f, acc, h => ⟨[], acc, [], h, rfl, fun j b c h => by simp at h, rfl⟩
  | o :: os, f, acc, h => by
    have h' : Prg.Runs st (opG o fun v => match v with
      | .one (.ref id off n) => capG os fun cs => f ((id, off, n) :: cs)
      | _ => .fail) acc rs ws := h
    obtain ⟨v, acc1, h', hv, -⟩ := runs_opG hr h'
    split at h'
    · rename_i id off n
      obtain ⟨b, hb, e⟩ := hv
      obtain ⟨cs, acc2, bs, h2, h3, h4, h5⟩ := capG_runs hr (f := fun cs => f ((id, off, n) :: cs)) h'
      refine ⟨(id, off, n) :: cs, acc2, b :: bs, h2, by simp [h3], fun j b' c e1 e2 => ?_, by simp [e, h5]⟩
      cases j with
      | zero => cases e1; cases e2; exact hb
      | succ j => exact h4 j b' c (by simpa using e1) (by simpa using e2)
    · exact h'.elim
theorem ok_makeFunc {f : Nat} {first cap : Array Operand} (hd : ∀ d, dst = some d → d < N) : OpOk P C N rc i ⟨dst, .makeFunc (.func f) first cap, ty, pos, after, guard⟩
    (match first.toList with
      | [] => capG cap.toList fun cs => putP ⟨dst, .makeFunc (.func f) first cap, ty, pos, after, guard⟩ (.one (.clo f cs))
      | _ => .fail) := by
  intro G used st a w acc rs ws hr hf h K Q hK
  split at h
  · rename_i hfst
    obtain rfl : first = #[] := Array.toList_eq_nil_iff.1 hfst
    obtain ⟨cs, acc', bs, h2, h3, h4, h5⟩ := capG_runs hr h
    refine fin_any hd hr hK h2 trivial (v := .func (.func f) #[] (cap.map a.eval)) (by simp [execOp, Instr.makeFunc]) ⟨bs, h3, h4, ?_⟩
    have : cap.map a.eval = ((bs.zip cs).map fun p => Value.pointer (some ⟨p.1, p.2.2.1, none⟩)).toArray := by
      apply Array.toList_inj.1
      simp [h5]
    rw [this]
  · exact h.elim
theorem capsP_ok : ∀ {caps : List (Id × Nat × Nat)} {qs : List PS} {cs : List Pln} {bs : List Nat}, capsP caps qs = some cs → bs.length = caps.length → (∀ (j : Nat) b c, bs[j]? = some b → caps[j]? = some c → G.β c.1 = some (b, c.2.2)) →
    PlnsOk false G w qs cs ((bs.zip caps).map fun p => Value.pointer (some ⟨p.1, p.2.2.1, none⟩)) ∧ allB bxs qs = true
  | [], [], cs, bs, h, hl, _ => by
    cases h
    obtain rfl : bs = [] := List.length_eq_zero_iff.1 hl
    exact ⟨trivial, rfl⟩
  | c :: caps, .bx ls :: qs, cs, [], h, hl, _ => by cases hl
  | c :: caps, .bx ls :: qs, cs, b :: bs, h, hl, hβ => by
    simp only [capsP] at h
    split at h
    · rename_i hc
      simp only [Bool.and_eq_true] at hc
      obtain ⟨k1, k2, k3⟩ := hc
      have k1 := Nat.eq_of_beq_eq_true k1
      have k2 := Nat.eq_of_beq_eq_true k2
      have k3 : 0 < c.2.2 := Nat.le_of_ble_eq_true k3
      simp only [Option.bind_eq_some_iff] at h
      obtain ⟨r, hr, h⟩ := h
      cases h
      obtain ⟨h1, h2⟩ := capsP_ok (bs := bs) hr (by simpa using hl) (fun j b' c' e1 e2 => hβ (j + 1) b' c' (by simpa using e1) (by simpa using e2))
      refine ⟨⟨⟨rfl, by omega, b, ?_, by simp only [k1]⟩, h1⟩, by simp only [allB, bxs]; exact h2⟩
      have := hβ 0 b c rfl rfl
      rw [this, k2]
    · cases h
  | [], _ :: _, cs, bs, h, _, _ => by cases h
  | _ :: _, [], cs, bs, h, _, _ => by cases h
  | _ :: _, .v _ :: _, cs, bs, h, _, _ => by cases h
  | _ :: _, .mu _ :: _, cs, bs, h, _, _ => by cases h
  | _ :: _, .ep _ :: _, cs, bs, h, _, _ => by cases h
  | _ :: _, .fn :: _, cs, bs, h, _, _ => by cases h
theorem plnsOk_app : ∀ {A B : List PS} {x1 x2 : List Pln} {v1 v2 : List Value}, PlnsOk false G w A x1 v1 → PlnsOk false G w B x2 v2 → PlnsOk false G w (A ++ B) (x1 ++ x2) (v1 ++ v2)
  | [], B, [], x2, [], v2, _, k => k
  | q :: A, B, x :: x1, x2, v :: v1, v2, h, k => ⟨h.1, plnsOk_app h.2 k⟩
  | [], _, _ :: _, _, _, _, h, _ => h.elim
  | [], _, [], _, _ :: _, _, h, _ => h.elim
  | _ :: _, _, [], _, _, _, h, _ => h.elim
  | _ :: _, _, _ :: _, _, [], _, h, _ => h.elim
theorem plnsOk_len : ∀ {A : List PS} {x1 : List Pln} {v1 : List Value}, PlnsOk false G w A x1 v1 → x1.length = A.length ∧ v1.length = A.length
  | [], [], [], _ => ⟨rfl, rfl⟩
  | q :: A, x :: x1, v :: v1, h => by
    obtain ⟨h1, h2⟩ := plnsOk_len h.2
    exact ⟨by simp [h1], by simp [h2]⟩
  | [], _ :: _, _, h => h.elim
  | [], [], _ :: _, h => h.elim
  | _ :: _, [], _, h => h.elim
  | _ :: _, _ :: _, [], h => h.elim
theorem plnsRep_app {VA : Loc → Value → Prop} : ∀ {A B : List PS} {p : Nat} {x1 x2 : List Pln} {d1 d2 : List DL} {v1 v2 : List Value}, PlnsRep VA false ρ w rc i p A x1 d1 v1 → PlnsRep VA false ρ w rc i (p + A.length) B x2 d2 v2 → PlnsRep VA false ρ w rc i p (A ++ B) (x1 ++ x2) (d1 ++ d2) (v1 ++ v2)
  | [], B, p, x1, x2, d1, d2, v1, v2, ⟨h1, h2, h3⟩, k => by subst h1 h2 h3; exact k
  | q :: A, B, p, _, x2, _, d2, _, v2, ⟨x, xs, e1, e2, v, vs, rfl, rfl, rfl, h4, h5⟩, k => by
    refine ⟨x, xs ++ x2, e1, e2 ++ d2, v, vs ++ v2, rfl, by rw [List.append_assoc], rfl, h4, plnsRep_app h5 ?_⟩
    rw [List.length_cons, show p + (A.length + 1) = p + 1 + A.length by omega] at k
    exact k
/-- A closure of the function's own, called. -/
theorem ok_callC {c : Call} {x : Operand} {f own : Nat} {fn : Fun} {caps : List (Id × Nat × Nat)} (hs : Sound P f fn) (hc : c.callee = .value x) (hd : ∀ d, dst = some d → d < N)
    (hr : Rep C G N used st a w) (hf : FreshAt used rc i) (hval : RepL C G w none (.clo f caps) (a.eval x)) (h : (callC fn own rc i ⟨dst, .call c, ty, pos, after, guard⟩ c.args.toList caps).Runs st acc rs ws)
    (hK : ∀ G' a' w', Fr G.ρ w G'.ρ w' → Rep C G' N (usedAt used rc i) (ws ++ st) a' w' → K a' w') : (⟨dst, .call c, ty, pos, after, guard⟩ : Oper).wp P a w K Q := by
  obtain ⟨xs, ws', ws2, acc', G1, rfl, h1, hm, hr1, hx⟩ := argsP_runs hf _ _ 0 (hr.mono fun _ h => .inl h) h
  obtain ⟨cs, hcs, h2⟩ := runs_opt h1
  rcases (runs_ite h2).symm with ⟨_, h3⟩ | ⟨hdist, h3⟩
  · exact h3.elim
  obtain ⟨bs, hbl, hβ, hv⟩ := hval
  obtain ⟨hcx, hbx⟩ := capsP_ok (G := G1) (w := w) hcs hbl (fun j b c h1 h2 => hm.β _ _ (hβ j b c h1 h2))
  have hall := plnsOk_app hx hcx
  rw [List.take_append_drop] at hall
  obtain ⟨ds, acc2, h4, hp⟩ := readPs_runs (i := i) hr1 _ (xs ++ cs) _ 0 hall h3
  obtain ⟨z, hz, h5⟩ := runs_opt h4
  obtain ⟨y, hy, h6⟩ := h5
  obtain ⟨ws3, hcr, h7⟩ := runs_opt h6
  obtain ⟨rfl, -⟩ := h7
  have hds := mkTup_un hz
  have hargs : (c.args.map a.eval ++ ((bs.zip caps).map fun p => Value.pointer (some ⟨p.1, p.2.2.1, none⟩)).toArray).toList = c.args.toList.map a.eval ++ (bs.zip caps).map fun p => Value.pointer (some ⟨p.1, p.2.2.1, none⟩) := by simp
  have hrun : (execOp a.eval ⟨dst, .call c, ty, pos, after, guard⟩).run P w = .ok (.enter f (c.args.map a.eval ++ ((bs.zip caps).map fun p => Value.pointer (some ⟨p.1, p.2.2.1, none⟩)).toArray)) w := by
    have := hs.enter (c.args.map a.eval ++ ((bs.zip caps).map fun p => Value.pointer (some ⟨p.1, p.2.2.1, none⟩)).toArray) w
    simp [execOp, Go.resolve, hc, hv, Deferred.ofValue, invoke] at this ⊢
    simp [this]
  refine call_main (o := ⟨dst, .call c, ty, pos, after, guard⟩) hd hr1 hall hp hdist hrun rfl hcr (fun s hs => usedA_new hf (by rw [Nat.zero_add, List.length_take]; omega)) (used3 := usedAt used rc i) ?_ (fun ρ k1 k2 => hs.calls ρ w _ z y hy k1 (by rw [hds, hargs]; exact k2) |>.mono (by
      rintro e w' ⟨v, ρ', h3, h4, h5, d1, d2, h6, h7, h8⟩
      rw [hargs] at h8
      exact ⟨v, ρ', h3, h4, h5, d1, d2, h6, h7, h8⟩)) (hK_step hm.fr hK)
  rintro id ((h | ⟨s, _, _, e⟩) | ⟨s, _, e⟩)
  · exact .inl h
  · exact .inr ⟨s, e⟩
  · exact .inr ⟨s, e⟩
/-- A function that takes a closure, with one of the function's own. -/
theorem ok_callHC {c : Call} {x : Operand} {f g own : Nat} {fn : Fun} {h : Hof} {caps : List (Id × Nat × Nat)} (hs : Sound P g fn) (hsh : SoundH P f h) (hc : c.callee = .value (.func f)) (hd : ∀ d, dst = some d → d < N)
    (hr : Rep C G N used st a w) (hf : FreshAt used rc i) (hx0 : fnOp h.sig.pars c.args.toList = some x) (ho : oneFn h.sig.pars = true) (hval : RepL C G w none (.clo g caps) (a.eval x)) (hh : (callHC fn h own rc i ⟨dst, .call c, ty, pos, after, guard⟩ c.args.toList caps).Runs st acc rs ws)
    (hK : ∀ G' a' w', Fr G.ρ w G'.ρ w' → Rep C G' N (usedAt used rc i) (ws ++ st) a' w' → K a' w') : (⟨dst, .call c, ty, pos, after, guard⟩ : Oper).wp P a w K Q := by
  rcases (runs_ite hh).symm with ⟨_, hh⟩ | ⟨hck, hh⟩
  · exact hh.elim
  rw [Bool.and_eq_true] at hck
  obtain ⟨xs, ws', ws2, acc', G1, rfl, h1, hm, hr1, hx⟩ := argsP_runs hf _ _ 0 (hr.mono fun _ h => .inl h) hh
  obtain ⟨cs, hcs, h2⟩ := runs_opt h1
  rcases (runs_ite h2).symm with ⟨_, h3⟩ | ⟨hdist, h3⟩
  · exact h3.elim
  obtain ⟨bs, hbl, hβ, hv⟩ := hval
  obtain ⟨hcx, hbx⟩ := capsP_ok (G := G1) (w := w) hcs hbl (fun j b c h1 h2 => hm.β _ _ (hβ j b c h1 h2))
  obtain ⟨ds, acc2, h4, hp⟩ := readPs_runs (i := i) hr1 _ xs _ 0 hx h3
  obtain ⟨es, acc3, h5, hp2⟩ := readPs_runs (i := i) hr1 _ cs _ h.sig.pars.length hcx h4
  obtain ⟨z, hz, h6⟩ := runs_opt h5
  obtain ⟨s, hs', h7⟩ := runs_opt h6
  obtain ⟨y, hy, h8⟩ := h7
  obtain ⟨ws3, hcr, h9⟩ := runs_opt h8
  obtain ⟨rfl, -⟩ := h9
  have hds := mkTup_un hz
  have hes := mkOut_un hs'
  have hargs : (c.args.map a.eval).toList = c.args.toList.map a.eval := by simp
  have hrun : (execOp a.eval ⟨dst, .call c, ty, pos, after, guard⟩).run P w = .ok (.enter f (c.args.map a.eval)) w := by
    have := hsh.enter (c.args.map a.eval) w
    simp [execOp, Go.resolve, hc, Act.eval, Deferred.ofValue, invoke, this]
  have hrep := plnsRep_app hp (by rw [Nat.zero_add]; exact hp2)
  have hclo := cap_ok hs hck.1 hck.2 ((bs.zip caps).map fun p => Value.pointer (some ⟨p.1, p.2.2.1, none⟩)).toArray
  refine call_main (o := ⟨dst, .call c, ty, pos, after, guard⟩) hd hr1 (plnsOk_app hx hcx) hrep hdist hrun rfl hcr (fun s hs => usedA_new hf (by rw [Nat.zero_add]; exact hs)) (used3 := usedAt used rc i) ?_ (fun ρ k1 k2 => ?_) (hK_step hm.fr hK)
  · rintro id ((h | ⟨s, _, _, e⟩) | ⟨s, _, e⟩)
    · exact .inl h
    · exact .inr ⟨s, e⟩
    · exact .inr ⟨s, e⟩
  · obtain ⟨d1, d2, v1, v2, e1, e2, p1, p2⟩ := pars_split k2
    have hl1 := pars_len p1
    obtain ⟨_, hl2⟩ := plnsOk_len hx
    obtain ⟨rfl, rfl⟩ := List.append_inj e2 (by rw [hl1, hl2])
    have hl3 := pars_dlen p1
    have hl4 : ds.length = (h.sig.pars.flatMap PS.tys).length := by rw [← hds, unTup_len]; rfl
    obtain ⟨rfl, rfl⟩ := List.append_inj e1 (by rw [hl3, hl4])
    rw [Nat.zero_add] at p2
    refine (hof_ext hsh hclo hbx hy k1 (by rw [hds, hargs]; exact p1) (by rw [hes]; exact p2) (by rw [hargs]; exact fnAt_one ho hx0 hv)).mono ?_
    rintro e w' ⟨v, ρ', q1, q2, q3, d1, d2, q4, q5, q6⟩
    rw [hargs] at q6
    exact ⟨v, ρ', q1, q2, q3, d1, d2, q4, q5, q6⟩
end
end Go.Proofs.Ytbgefphoochgcaa.FE
