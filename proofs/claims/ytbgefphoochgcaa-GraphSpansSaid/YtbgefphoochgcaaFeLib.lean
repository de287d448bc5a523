/- FE, part 40: Go's library: slices.Clone. -/
import Derived.Test.YtbgefphoochgcaaFeOut
import Derived.Lib.SliceRun
namespace Go.Proofs.Ytbgefphoochgcaa.FE
open Go
set_option linter.unusedVariables false
set_option linter.unusedSimpArgs false
section
variable {P : Program} {T : Tab}
/-- slices.Clone's text. -/
def cloneR (ts tb : Nat) (p1 p2 : String) (e2 : Array Edge) : Array Oper := #[⟨some 3, .move (.tmp 0), ts, p1, #[], none⟩, ⟨some 4, .binOp .eql ts (.tmp 3) (.const (.slice none 0 0)) ts, tb, p2, e2, none⟩]
def cloneB (ts : Nat) (p4 p5 p6 p7 : String) (e6 e7 : Array Edge) : Code :=
  .seq (.region 3 #[⟨some 5, .buildSlice ts 0 #[], ts, p4, #[], none⟩, ⟨some 6, .move (.tmp 0), ts, p5, #[], none⟩, ⟨some 7, .call ⟨.builtin .append, #[.tmp 5, .tmp 6], #[ts, ts]⟩, ts, p6, e6, none⟩, ⟨some 2, .assign (.tmp 7), ts, p7, e7, none⟩] false) .ret
def cloneC (ts tb : Nat) (p0 p1 p2 p3 p4 p5 p6 p7 : String) (e2 e6 e7 : Array Edge) : Code :=
  .seq (.region 0 #[⟨some 2, .assign (.const (.slice none 0 0)), ts, p0, #[], none⟩] false)
    (.seq (.seq (.region 1 (cloneR ts tb p1 p2 e2) false)
        (.cond (.tmp 4) (.seq (.region 2 #[⟨some 2, .assign (.const (.slice none 0 0)), ts, p3, #[], none⟩] false) .ret) .skip)) (cloneB ts p4 p5 p6 p7 e6 e7))
@[reducible] def cloneS (E : Ty) : Sig := ⟨[.v (.dat (.sl E))], [.v (.arr E)]⟩
def cloneF (E : Ty) (x : Tup (cloneS E).ins) : Option (El (outTy (cloneS E).outs)) := bif limB (x.1 : List (El E)).length then some x.1 else none
def cloneH : Hints := ⟨[(3, 0, 1), (3, 2, 1)], [], [], []⟩
def env0 : Env Unit := ⟨[], [], none⟩
theorem env0_ok : EnvOk P noClo env0 := ⟨fun f fn h => (by cases h), fun f h hh => (by cases hh), fun cl h => (by cases h)⟩
theorem clone_sound (hm : P.follows .mixedOrders = true) (hT : TabOk P T) {f ts tb et : Nat} {p0 p1 p2 p3 p4 p5 p6 p7 : String} {e2 e6 e7 : Array Edge} {fn : Func} {ti : TI} {E : Ty} (hf : P.funcs[f]? = some fn) (hname : (fn.name == "runtime.NumGoroutine") = false)
    (hti : T.get ts = some ti) (hk : ti.kind = .sl et) (hty : ti.ty = .sl E) (hbody : fn.body = some (cloneC ts tb p0 p1 p2 p3 p4 p5 p6 p7 e2 e6 e7)) (hres : fn.results = #[.tmp 2]) (hnt : fn.ntmps = 8) : Sound P f ⟨cloneS E, cloneF E⟩ := by
  constructor
  · intro args w
    have h1 : fn.name ≠ "runtime.NumGoroutine" := by simpa using hname
    simp [callFunc, hf, h1, hbody, mark]
  · intro ρ w args x y hy hlt hpars
    have hl : limB (x.1 : List (El E)).length = true ∧ y = x.1 := by
      have hy' : (bif limB (x.1 : List (El E)).length then some x.1 else none) = some y := hy
      cases hl : limB (x.1 : List (El E)).length with
      | true => rw [hl] at hy'; exact ⟨rfl, (Option.some.inj hy').symm⟩
      | false => rw [hl] at hy'; cases hy'
    obtain ⟨hl, rfl⟩ := hl
    have hlen : args.size = 1 := by simpa using hpars.len
    obtain ⟨v0, rfl⟩ : ∃ v, args = #[v] := ⟨args[0], by
      apply Array.ext
      · simpa using hlen
      · intro i h1 h2
        have : i = 0 := by simp at h2; exact h2
        subst this
        simp⟩
    obtain ⟨xs', u⟩ := x
    obtain ⟨xs, rfl⟩ : ∃ xs : List (El E), xs = xs' := ⟨xs', rfl⟩
    have hv0 : RepC w (Ow ρ) (.sl E) xs [v0] := by
      obtain ⟨d1, d2, v, vs', e1, e2, ⟨x1, e3, h⟩, ⟨e4, e5⟩⟩ := hpars
      have e1' : [(⟨.sl E, xs⟩ : DL)] = d1 ++ d2 := e1
      have e2' : [v0] = v :: vs' := e2
      rw [e3, e4] at e1'
      have e6 := (List.cons.inj e1').1
      obtain ⟨rfl, -⟩ := List.cons.inj e2'
      cases e6
      exact h
    obtain ⟨ad, cap, -, hle, hdat⟩ := hv0
    let a0 : Act := { tmps := #[v0] ++ Array.replicate (fn.ntmps - (#[v0] : Array Value).size) undef, defers := [] }
    have hsz : a0.tmps.size = 8 := by
      show (#[v0] ++ Array.replicate (fn.ntmps - (#[v0] : Array Value).size) undef).size = _
      rw [hnt]; rfl
    have hget : ∀ (k : Nat) v, (#[v0] : Array Value).toList[k]? = some v → a0.tmps.getD k undef = v := by
      intro k v h
      cases k with
      | zero =>
        cases h
        show (#[v0] ++ Array.replicate (fn.ntmps - (#[v0] : Array Value).size) undef).getD 0 undef = v0
        rw [Array.getD_eq_getD_getElem?, Array.getElem?_append_left (by simp)]
        rfl
      | succ k => simp at h
    obtain ⟨G0, eG, hr0⟩ := start_ok (C := noClo) hlt hsz rfl (qs := (cloneS E).pars) rfl (FnAt.none rfl) hpars hget
    have hr0 : Rep noClo G0 8 (usedB 1) ([(.tmp 0, .one (.dat (.sl E) xs))] : S Unit) a0 w := by
      have hp0 : (parS (cloneS E).pars (unTup (cloneS E).ins (xs, u)) : S Unit) = [(.tmp 0, .one (.dat (.sl E) xs))] := by
        have e : unTup (cloneS E).ins (xs, u) = [⟨.sl E, xs⟩] := rfl
        rw [e]; simp [parS, unslots, parL, parD, parR, cloneS, slotV, rowB, avOf, cast_self, unpack]
      rw [← hp0]; exact hr0
    have hf0 : a0.tmps.getD 0 undef = v0 := hget 0 v0 rfl
    refine calls_of_wp hf hbody ?_
    have fin : ∀ {rc' : Nat} {st' : S Unit} {G' : Ghost} {a' : Act} {w' : World}, Fr G0.ρ w G'.ρ w' → Rep noClo G' 8 (usedB rc') st' a' w' → resAll T (cloneS E) fn.results.toList rc' st' = some xs →
        bodyPost P fn (fun e w' => ∃ v ρ', e = .returned v ∧ Fr ρ w ρ' w' ∧ (∀ b, Ow ρ' b → b < w'.heap.size) ∧ ∃ d1 d2, unOut (cloneS E).outs xs = d1 ++ d2 ∧ ResAll ρ' w' (cloneS E).res d1 v ∧ OutsRep ρ' w' 0 (cloneS E).pars d2 (#[v0] : Array Value).toList) .ret a' w' := by
      intro rc' st' G' a' w' q1 q2 q4
      obtain ⟨v, ρ', d1, d2, r1, r2, r3, r4, r5, r6, -⟩ := res_ok (P := P) (args := #[v0]) hT q2 q4 rfl rfl (fun j q v e1 e2 => by simp [outQ] at e1)
      exact ⟨q2.defers, v, r1, v, ρ', rfl, by rw [← eG]; exact q1.trans r2, r3, d1, d2, r4, r5, r6⟩
    -- t2 := nil
    have ev0 : ev T env0 cloneH 0 false (fun _ (_ : S Unit) => (none : Option Unit)) (Nat × S Unit) (.region 0 #[⟨some 2, .assign (.const (.slice none 0 0)), ts, p0, #[], none⟩] false) 1 ([(.tmp 0, .one (.dat (.sl E) xs))]) (fun rc st => some (rc, st)) (fun _ _ _ => none) (fun _ => none) =
        some (2, (.tmp 2, .one .nilS) :: [(.tmp 0, .one (.dat (.sl E) xs))]) := rfl
    refine wp_seq (wp_mono (ev_ok (ps := []) hm hT env0_ok _ rfl ev0 hr0) fun e a1 w1 hq => ?_)
    cases e with
    | normal =>
      obtain ⟨rc', st1, G1, q1, q2, q3, q4, hk1, q5⟩ := hq
      obtain ⟨rfl, rfl⟩ := Prod.mk.inj (Option.some.inj q5)
      have hu := (hT.sl hti hk).1
      refine wp_seq (wp_seq (wp_region ?_))
      show wpOps P (cloneR ts tb p1 p2 e2) _ [0, 1] a1 w1
      have hg : (opG (.tmp 0) fun v => putP ⟨some 3, .move (.tmp 0), ts, p1, #[], none⟩ (copyV (.tmp 0) v)).Runs (((.tmp 2, .one .nilS) :: [(.tmp 0, .one (.dat (.sl E) xs))] : S Unit)) [] [.tmp 0] [(.tmp 3, .one (.dat (.sl E) xs))] := by
        simp [opG, Prg.Runs, putP, S.get, locB, parS, unTup, cloneS, readPs, copyV]
      rw [wpOps_cons]
      refine .inl (ok_move (rc := 2) (i := 0) (fun d hd => by cases hd; omega) q4 (fun s h => by have : 2 < 2 := h; omega) (acc := []) (rs := [.tmp 0]) (ws := [(.tmp 3, .one (.dat (.sl E) xs))]) hg _ _ fun G2 a2 w2 f2 h2 => ?_)
      rw [wpOps_cons]
      have h3 := h2.at_ (.tmp 3)
      obtain ⟨ad2, cap2, e3, _, hd2⟩ : RepC w2 G2.O (.sl E) xs [a2.tmps.getD 3 undef] := h3
      have e3 : a2.tmps.getD 3 undef = .slice ad2 xs.length cap2 := (List.cons.inj e3).1
      refine .inl ?_
      show Oper.wp P ⟨some 4, .binOp .eql ts (.tmp 3) (.const (.slice none 0 0)) ts, tb, p2, e2, none⟩ a2 w2 _ _
      refine (fin_dat (N := 8) (o := ⟨some 4, .binOp .eql ts (.tmp 3) (.const (.slice none 0 0)) ts, tb, p2, e2, none⟩) (acc := []) (rs := []) (rc := 2) (i := 1) (t := .bool) (x := ad2.isNone) (v := .bool ad2.isNone) (fun d hd => by cases hd; exact (by decide : 4 < 8)) h2 ?_ ⟨rfl, rfl⟩ (by
        have := Lib.run_eql_slice_nil (P := P) w2 ts et ad2 xs.length cap2 0 0 hu
        simp [execOp, Act.eval, e3, eqGuard, this]) rfl)
      intro G3 a3 w3 f3 h3
      have h3' : Rep noClo G3 8 (usedB 3) ([(.tmp 4, .one (.dat .bool ad2.isNone))] ++ ([(.tmp 3, .one (.dat (.sl E) xs))] ++ ((.tmp 2, .one .nilS) :: [(.tmp 0, .one (.dat (.sl E) xs))]))) a3 w3 := by
        refine h3.mono ?_
        rintro id ((h | ⟨s, rfl⟩) | ⟨s, rfl⟩)
        · exact Nat.lt_succ_of_lt h
        · exact Nat.lt_succ_self 2
        · exact Nat.lt_succ_self 2
      have hfr := (q3.trans f2).trans f3
      show (Code.cond (.tmp 4) _ _).wp P _ a3 w3
      cases hn : ad2.isNone with
      | true =>
        rw [hn] at h3'
        have hx : xs = [] := Classical.byContradiction fun h => by
          obtain ⟨b, off, e, _⟩ := hd2 h
          rw [e] at hn; cases hn
        subst hx
        have ev1 : ev T env0 cloneH 0 false (resAll T (cloneS E) fn.results.toList) (El (outTy (cloneS E).outs)) (.cond (.tmp 4) (.seq (.region 2 #[⟨some 2, .assign (.const (.slice none 0 0)), ts, p3, #[], none⟩] false) .ret) .skip) 3
            ([(.tmp 4, .one (.dat .bool true))] ++ ([(.tmp 3, .one (.dat (.sl E) ([] : List (El E))))] ++ ((.tmp 2, .one .nilS) :: [(.tmp 0, .one (.dat (.sl E) ([] : List (El E))))]))) (fun _ _ => none) (fun _ _ _ => none) (fun y => some y) = some ([] : List (El E)) := by
          have em : mkOut (List.flatMap RS.tys [RS.v (LS.arr E)] ++ List.flatMap PS.outs [PS.v (LS.dat E.sl)]) [⟨.sl E, ([] : List (El E))⟩] = some ([] : List (El E)) := cast_self
          rw [hres]; simp [em, ev, evOps, opP, resAll, argsS, srcG, opG, argP, takeV, takeK, readPs, readP, S.get, locB, Prg.run, putP, constAV, ownOf, frzOf, condV, setC, firstR, findH, cloneH, outQ, resQ, resS, cloneS, plnL, distL, inL, idV, idB, leafLS, Prg.opt, mkOut, cast_self, goL, Sig.outs, RS.tys, LS.ty, outTy]
          exact cast_self
        refine wp_mono (ev_ok (ps := []) hm hT env0_ok _ rfl ev1 h3') fun e a4 w4 hq => ?_
        cases e with
        | normal => obtain ⟨_, _, _, _, _, _, _, _, q5⟩ := hq; cases q5
        | exit i => obtain ⟨_, _, _, _, _, _, _, _, q5⟩ := hq; cases q5
        | ret =>
          obtain ⟨rc', st', G', k1, k2, k3, k4, y', k5, k6⟩ := hq
          cases k6
          exact fin (hfr.trans k2) k3 k5
        | _ => exact hq.elim
      | false =>
        rw [hn] at h3'
        have ev2 : ev T env0 cloneH 0 false (fun _ (_ : S Unit) => (none : Option Unit)) (Nat × S Unit) (.cond (.tmp 4) (.seq (.region 2 #[⟨some 2, .assign (.const (.slice none 0 0)), ts, p3, #[], none⟩] false) .ret) .skip) 3
            ([(.tmp 4, .one (.dat .bool false))] ++ ([(.tmp 3, .one (.dat (.sl E) xs))] ++ ((.tmp 2, .one .nilS) :: [(.tmp 0, .one (.dat (.sl E) xs))]))) (fun rc st => some (rc, st)) (fun _ _ _ => none) (fun _ => none) = some (3, (.tmp 4, .one (.dat .bool false)) :: ([(.tmp 4, .one (.dat .bool false))] ++ ([(.tmp 3, .one (.dat (.sl E) xs))] ++ ((.tmp 2, .one .nilS) :: [(.tmp 0, .one (.dat (.sl E) xs))])))) := by
          simp [ev, srcG, opG, S.get, locB, Prg.run, condV, setC]
        refine wp_mono (ev_ok (ps := []) hm hT env0_ok _ rfl ev2 h3') fun e a4 w4 hq => ?_
        cases e with
        | normal =>
          obtain ⟨rc', st', G4, k1, k2, k3, k4, k5, k6⟩ := hq
          obtain ⟨rfl, rfl⟩ := Prod.mk.inj (Option.some.inj k6)
          have ev3 : ev T env0 cloneH 0 false (resAll T (cloneS E) fn.results.toList) (El (outTy (cloneS E).outs)) (cloneB ts p4 p5 p6 p7 e6 e7) 3
            ((.tmp 4, .one (.dat .bool false)) :: [(.tmp 4, .one (.dat .bool false))] ++ ([(.tmp 3, .one (.dat (.sl E) xs))] ++ ((.tmp 2, .one .nilS) :: [(.tmp 0, .one (.dat (.sl E) xs))]))) (fun _ _ => none) (fun _ _ _ => none) (fun y => some y) = some xs := by
            have em : mkOut (List.flatMap RS.tys [RS.v (LS.arr E)] ++ List.flatMap PS.outs [PS.v (LS.dat E.sl)]) [⟨.sl E, xs⟩] = some xs := cast_self
            rw [hres]; simp [em, cloneB, elemsP, putS, borrow, copyV, slV, cast_self, unpack, ev, evOps, opP, resAll, argsS, srcG, opG, argP, takeV, takeK, readPs, readP, S.get, locB, Prg.run, putP, constAV, ownOf, frzOf, condV, setC, firstR, findH, cloneH, outQ, resQ, resS, cloneS, plnL, distL, inL, idV, idB, leafLS, Prg.opt, mkOut, cast_self, goL, Sig.outs, RS.tys, LS.ty, outTy, hti, hk, hty, hl]
            exact cast_self
          refine wp_mono (ev_ok (ps := []) hm hT env0_ok _ rfl ev3 k4) fun e a5 w5 hq => ?_
          cases e with
          | normal => obtain ⟨_, _, _, _, _, _, _, _, q5⟩ := hq; cases q5
          | exit i => obtain ⟨_, _, _, _, _, _, _, _, q5⟩ := hq; cases q5
          | ret =>
            obtain ⟨rc', st', G', l1, l2, l3, l4, y', l5, l6⟩ := hq
            cases l6
            exact fin ((hfr.trans k3).trans l2) l3 l5
          | _ => exact hq.elim
        | exit i => obtain ⟨rc', st', G', _, _, _, _, _, k6⟩ := hq; cases k6
        | ret => obtain ⟨rc', st', G', _, _, _, _, y', _, k7⟩ := hq; cases k7
        | _ => exact hq.elim
    | exit i => obtain ⟨rc', st', G', q1, q2, q3, q4, q5, q6⟩ := hq; cases q6
    | ret => obtain ⟨rc', st', G', q2, q3, q4, q5, y', q6, q7⟩ := hq; cases q6
    | _ => exact hq.elim
end
end Go.Proofs.Ytbgefphoochgcaa.FE
