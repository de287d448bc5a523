/- FE, part 27: calls, done. -/
import Derived.Test.YtbgefphoochgcaaFeZ
namespace Go.Proofs.Ytbgefphoochgcaa.FE
open Go
set_option linter.unusedVariables false
set_option linter.unusedSimpArgs false
section
variable {Ω : Type} {C : CloRep Ω} {P : Program} {T : Tab} {N : Nat}
variable {rc i : Nat} {dst : Option Nat} {ty : Nat} {pos : String} {after : Array Edge} {guard : Option (Nat × Bool)}
variable {w w' : World}

theorem ResRep.look {ρ ρf : Nat → Option Own} {own : Bool} {l : Loc} {n k : Nat} {r : RS} {ds : List DL} {v : Value} (hl : lookR r = true) (h : ResRep ρ w n r ds v) : ResFact ρf w own l rc i k r ds v := by
  cases r with
  | v s =>
    cases s with
    | dat t =>
      obtain ⟨x, e, h⟩ := h
      exact ⟨_, e, x, rfl, Val.mono h fun _ => RepC_scalar hl⟩
    | _ => cases hl
  | bx ls => cases hl
theorem ResList.look {ρ ρf : Nat → Option Own} {own d : Nat} : ∀ {rs : List RS} {n k : Nat} {ds : List DL} {vs : List Value}, allB lookR rs = true → ResList ρ w n rs ds vs → ResFacts ρf w own d rc i k n rs ds vs
  | [], n, k, ds, vs, _, h => h
  | r :: rs, n, k, ds, vs, hl, h => by
    obtain ⟨d1, d2, v, vs', rfl, rfl, h1, h2⟩ := h
    simp only [allB] at hl
    split at hl
    · rename_i hr
      exact ⟨d1, d2, v, vs', rfl, rfl, h1.len, h1.look hr, ResList.look hl h2⟩
    · cases hl
theorem ResAll.look {ρ ρf : Nat → Option Own} {own n : Nat} {rs : List RS} {ds : List DL} {v : Value} (hl : allB lookR rs = true) (h : ResAll ρ w rs ds v) : ResOut ρf w own rc i n dst rs ds v := by
  match rs, hl, h with
  | [], _, h => exact h
  | [r], hl, h =>
    have h' : ResRep ρ w 0 r ds v := h
    simp only [allB] at hl
    split at hl
    · rename_i hr; exact ⟨h'.len, fun d _ => h'.look hr⟩
    · cases hl
  | r1 :: r2 :: rs, hl, h =>
    obtain ⟨us, ev, h⟩ := h
    exact fun d _ => ⟨us, ev, ResList.look hl h⟩
theorem OutFacts.ghost {VA : Loc → Value → Prop} {ρ : Nat → Option Own} {G G' : Ghost} (hβ : G'.β = G.β) : ∀ {qs : List PS} {xs : List Pln} {ds : List DL} {vs : List Value}, OutFacts VA ρ G w qs xs ds vs → OutFacts VA ρ G' w qs xs ds vs
  | [], xs, ds, vs, h => h
  | q :: qs, xs, ds, vs, h => by
    obtain ⟨x, xs', d1, d2, v, vs', e1, e2, e3, h1, h2⟩ := h
    refine ⟨x, xs', d1, d2, v, vs', e1, e2, e3, ?_, OutFacts.ghost hβ h2⟩
    obtain ⟨Γ, β, ρ1⟩ := G
    obtain ⟨Γ', β', ρ2⟩ := G'
    cases hβ
    cases q <;> cases x <;> exact h1
theorem rlOf_om {own : Nat} {dst : Option Nat} {s : Bool} : ∀ n, rlOf own dst s n ≠ some .om := by
  intro n
  unfold rlOf
  split <;> simp
/-- A call, where who owns what is told for the length of it: the arguments that are handed over are 'vs' (more, it may be, than the function's own). -/
theorem call_main {o : Oper} {G1 : Ghost} {st ws : S Ω} {a : Act} {K : Act → World → Prop} {Q : Exit → Act → World → Prop} {qs : List PS} {rsg : List RS} {xs : List Pln} {vs : List Value} {ds dout : List DL} {f own n : Nat} {args : Array Value} {used2 : Id → Prop}
    (hd : ∀ d, o.dst = some d → d < N) (hr1 : Rep C G1 N used2 st a w) (hx : PlnsOk false G1 w qs xs vs) (hp : PlnsRep (ValAt G1 a w) false G1.ρ w rc i 0 qs xs ds vs) (hdist : distL (dstL o.dst ++ plnL rc i 0 xs) = true)
    (hrun : (execOp a.eval o).run P w = .ok (.enter f args) w) {sg : Sig} (hsg : sg.res = rsg) (hcr : callR sg own rc i o.dst n xs dout = some ws) (hn : ∀ s, n ≤ s → ¬ used2 (rc, i, s)) {used3 : Id → Prop} (hus : ∀ id, usedF used2 rc i n id → used3 id)
    (hcall : ∀ ρ, (∀ b, Ow ρ b → b < w.heap.size) → ParsRep ρ w 0 qs ds vs → Calls P f args w fun e w' => ∃ v ρ', e = .returned v ∧ Fr ρ w ρ' w' ∧ (∀ b, Ow ρ' b → b < w'.heap.size) ∧ ∃ d1 d2, dout = d1 ++ d2 ∧ ResAll ρ' w' rsg d1 v ∧ OutsRep ρ' w' 0 qs d2 vs)
    (hK : ∀ G' a' w', Fr G1.ρ w G'.ρ w' → Rep C G' N used3 (ws ++ st) a' w' → K a' w') : o.wp P a w K Q := by
  subst hsg
  obtain ⟨dst, op, ty, pos, after, guard⟩ := o
  obtain ⟨hdis, hdl⟩ := distL_split hdist
  unfold Oper.wp
  rw [hrun, Oper.upon_enter]
  have hfe : ∀ b, ¬ Ow G1.ρ b → ¬ Ow (fun b => (G1.ρ b).map (trOwn rc i 0 xs)) b := by
    intro b h h'
    refine h fun e => h' ?_
    show (G1.ρ b).map _ = none
    rw [e]; rfl
  have hlt0 : ∀ b, Ow (fun b => (G1.ρ b).map (trOwn rc i 0 xs)) b → b < w.heap.size := fun b h => hr1.lt b fun e => hfe b (fun h' => h' e) h
  refine (hcall (fun b => (G1.ρ b).map (trOwn rc i 0 xs)) hlt0
    (pars_in hfe hp hdl (fun l _ b hb => by show (G1.ρ b).map _ = _; rw [hb]; rfl) (fun l _ b hb => by show (G1.ρ b).map _ = _; rw [hb]; rfl))).mono ?_
  rintro e w' ⟨v, ρ', rfl, hfr, hlt, d1, d2, ey, hres, hout⟩
  rw [ey] at hcr
  have hstep := fun (L : Loc → Prop) hL => out_step hr1 hx hfr hout hlt (rlOf own dst (singleR sg.res)) rlOf_om (fun m => some (rc, i, kAt own n 0 sg.res m)) (L := L) hL
  have hfo : ∀ b, ¬ Ow ρ' b → ¬ Ow (outρ w.heap.size G1.ρ ρ' xs (rlOf own dst (singleR sg.res)) (fun m => some (rc, i, kAt own n 0 sg.res m))) b := fun b h => outρ_none h
  have hof := outs_facts (VA := ValAt G1 a w) (VA' := ValAt { G1 with ρ := outρ w.heap.size G1.ρ ρ' xs (rlOf own dst (singleR sg.res)) (fun m => some (rc, i, kAt own n 0 sg.res m)) } (a.put dst v) w') (XS := xs)
    (ρf := outρ w.heap.size G1.ρ ρ' xs (rlOf own dst (singleR sg.res)) (fun m => some (rc, i, kAt own n 0 sg.res m))) (fun k l id s v0 hX hv => ?_) hfo
    (fun p l id s b hX hb => by rw [outρ_own hb (by simp)]; simp [bk, hX]) (fun p id ls b hX hb => by rw [outρ_own hb (by simp)]; simp [bk, hX]) (fun p id ls j b hX hb => by rw [outρ_own hb (by simp)]; simp [bk, hX]) hp hx hout (fun k => by rw [Nat.zero_add])
  · obtain ⟨G', hf1, hrep⟩ := call_out (Gρ := { G1 with ρ := outρ w.heap.size G1.ρ ρ' xs (rlOf own dst (singleR sg.res)) (fun m => some (rc, i, kAt own n 0 sg.res m)) }) hr1 hd hstep rfl rfl (OutFacts.ghost (G := G1) (G' := { G1 with ρ := outρ w.heap.size G1.ρ ρ' xs (rlOf own dst (singleR sg.res)) (fun m => some (rc, i, kAt own n 0 sg.res m)) }) rfl hof)
      (hres.out hfo (fun b o hb ho => by
        have e0 := outρ_own (n := w.heap.size) (ρ := G1.ρ) (xs := xs) (rl := rlOf own dst (singleR sg.res)) (rb := fun m => some (rc, i, kAt own n 0 sg.res m)) hb ho
        exact ⟨fun n e => e0.trans (by subst e; rfl), fun n e => e0.trans (by subst e; rfl), fun n j e => e0.trans (by subst e; rfl)⟩)) hcr hn
    exact hK G' _ w' ((hstep (fun _ => True) (fun _ _ => trivial)).fr.trans hf1) (hrep.mono hus)
  · -- a value that stands where it stood
    cases l with
    | tmp t =>
      have hv' : a.tmps.getD t undef = v0 := hv
      show (a.put dst v).tmps.getD t undef = v0
      cases hdst : dst with
      | none => exact hv'
      | some d =>
        rw [getD_put_ne, hv']
        rintro rfl
        exact hdis (.tmp d) (by simp [dstL, hdst]) (mem_plnL (p := 0) hX _ (by simp [pln1]))
    | comp t n => trivial
    | om => exact hv.elim
    | box id' j =>
      obtain ⟨b, n, hb, hcell⟩ := hv
      refine ⟨b, n, hb, ?_⟩
      obtain ⟨hρ, c0, el0, hh0, hs0⟩ := hr1.box id' b n hb
      have hni : id' ∉ plnI xs := by
        intro hi
        obtain ⟨k2, ls, b2, h7, h8⟩ := plnI_box hx id' hi
        rw [hb] at h8
        cases h8
        have hj : j < ls.length := by
          rw [← hs0]
          rcases Nat.lt_or_ge j c0.size with h | h
          · exact h
          · simp [World.cell?, hh0, Array.getElem?_eq_none h] at hcell
        refine two (l := .box id' j) (p := 0) hdl hX h7 ?_ (by simp [pln1]) (mem_boxL.2 ⟨by omega, by omega⟩)
        rintro rfl
        rw [hX] at h7; cases h7
      obtain ⟨h9, _⟩ := hfr.ext b (by show (G1.ρ b).map _ = _; rw [hρ, Option.map_some, trOwn_bx hni])
      simp only [World.cell?, h9] at hcell ⊢
      exact hcell
theorem ok_call {c : Call} {f own : Nat} {fn : Fun} (hs : Sound P f fn) (hc : c.callee = .value (.func f)) (hd : ∀ d, dst = some d → d < N) :
    OpOk P C N rc i ⟨dst, .call c, ty, pos, after, guard⟩ (callP fn own rc i ⟨dst, .call c, ty, pos, after, guard⟩ c.args.toList) := by
  intro G used st a w acc rs ws hr hf h K Q hK
  obtain ⟨xs, ws', ws2, acc', G1, rfl, h1, hm, hr1, hx⟩ := argsP_runs hf fn.sig.pars c.args.toList 0 (hr.mono fun _ h => .inl h) h
  rcases (runs_ite h1).symm with ⟨_, h2⟩ | ⟨hdist, h2⟩
  · exact h2.elim
  obtain ⟨ds, acc2, h3, hp⟩ := readPs_runs (i := i) hr1 fn.sig.pars xs _ 0 hx h2
  obtain ⟨x, hmk, h4⟩ := runs_opt h3
  obtain ⟨y, hy, h5⟩ := h4
  obtain ⟨ws3, hcr, h6⟩ := runs_opt h5
  obtain ⟨rfl, -⟩ := h6
  have hds := mkTup_un hmk
  have hargs : (c.args.map a.eval).toList = c.args.toList.map a.eval := by simp
  have hrun : (execOp a.eval ⟨dst, .call c, ty, pos, after, guard⟩).run P w = .ok (.enter f (c.args.map a.eval)) w := by
    have := hs.enter (c.args.map a.eval) w
    simp [execOp, Go.resolve, hc, Act.eval, Deferred.ofValue, invoke, this]
  have hn : ∀ s, 1 + 2 * fn.sig.pars.length ≤ s → ¬ usedA used rc i (0 + fn.sig.pars.length) (rc, i, s) := fun s hs => by rw [Nat.zero_add]; exact usedA_new hf hs
  have hus : ∀ id, usedF (usedA used rc i (0 + fn.sig.pars.length)) rc i (1 + 2 * fn.sig.pars.length) id → usedAt used rc i id := by
    rintro id ((h | ⟨s, _, _, e⟩) | ⟨s, _, e⟩)
    · exact .inl h
    · exact .inr ⟨s, e⟩
    · exact .inr ⟨s, e⟩
  cases hlk : lookS fn.sig with
  | true =>
    unfold Oper.wp
    rw [hrun, Oper.upon_enter]
    rw [hlk] at hx hp
    have hlk' := hlk
    simp only [lookS, Bool.and_eq_true] at hlk'
    refine (hs.calls (fun _ => none) w (c.args.map a.eval) x y hy (fun b h => absurd rfl h) (by rw [hds, hargs]; exact pars_look hlk'.2 hp)).mono ?_
    rintro e w' ⟨v, ρ', rfl, hfr, hlt, d1, d2, ey, hres, hout⟩
    rw [hargs] at hout
    rw [ey] at hcr
    obtain ⟨G', hf1, hrep⟩ := call_out (Gρ := G1) hr1 hd (fun L _ => look_step hr1 hfr L) rfl rfl (outs_look (VA := ValAt G1 (a.put dst v) w') hlk'.2 hx hout) (hres.look hlk'.1) hcr hn
    exact hK_step hm.fr hK G' _ w' ((look_step hr1 hfr (fun _ => True)).fr.trans hf1) (hrep.mono hus)
  | false =>
    rw [hlk] at hx hp
    exact call_main (o := ⟨dst, .call c, ty, pos, after, guard⟩) hd hr1 hx hp hdist hrun rfl hcr hn hus (fun ρ h1 h2 => hs.calls ρ w (c.args.map a.eval) x y hy h1 (by rw [hds, hargs]; exact h2) |>.mono (by
      rintro e w' ⟨v, ρ', h3, h4, h5, d1, d2, h6, h7, h8⟩
      rw [hargs] at h8
      exact ⟨v, ρ', h3, h4, h5, d1, d2, h6, h7, h8⟩)) (hK_step hm.fr hK)
end
end Go.Proofs.Ytbgefphoochgcaa.FE
