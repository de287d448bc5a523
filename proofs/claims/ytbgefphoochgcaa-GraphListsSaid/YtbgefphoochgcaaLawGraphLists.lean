/- The row of the law GraphLists: written by wip/fe/frow.py of this repo, after the printer's rows. -/
import Derived.Test.YtbgefphoochgcaaRows
import Derived.Test.YtbgefphoochgcaaFx0
import Derived.Test.YtbgefphoochgcaaFeM3
import Derived.Test.YtbgefphoochgcaaXG7
import Derived.WalkKit
import Derived.ProofKit
import Derived.OpenShut
import Derived.ChangeOld
import Derived.Below
import Derived.SizedLaws
import Derived.Carry
namespace Go.Proofs.Ytbgefphoochgcaa.graphLists
open Go.ChangeShapes Go.WideShapes Go.ChangeAt Go.RowKit Go.Proofs.Ytbgefphoochgcaa.FE
set_option linter.unusedVariables false
theorem own : ownKnob Try.prog.godebug = none := by kernel_rfl
theorem laidOut : laidOutB Try.prog = true := by kernel_rfl
theorem ty0 : tyB Try.prog 9 29 (.st (.pair (.sl (.int .i64)) (.sl (.int .i64)))) = true := by kernel_rfl
theorem ty1 : tyB Try.prog 9 29 (.st (.pair (.sl (.int .i64)) (.sl (.int .i64)))) = true := by kernel_rfl
theorem ty2 : tyB Try.prog 9 3 (.int .i64) = true := by kernel_rfl
theorem called (k : Nat) {W : World} {v0 : Value} {x0 : El (.st (.pair (.sl (.int .i64)) (.sl (.int .i64))))} (y0 : RepV W (Ow fun _ => none) (.st (.pair (.sl (.int .i64)) (.sl (.int .i64)))) x0 v0) {v1 : Value} {x1 : El (.st (.pair (.sl (.int .i64)) (.sl (.int .i64))))} (y1 : RepV W (Ow fun _ => none) (.st (.pair (.sl (.int .i64)) (.sl (.int .i64)))) x1 v1) {v2 : Value} {x2 : El (.int .i64)} (y2 : RepV W (Ow fun _ => none) (.int .i64) x2 v2) (h : FX.tracerylaw04_GraphLists.f k (x0, x1, x2, ()) = some true) : Calls Try.prog 7 #[v0, v1, v2] W fun e w' => e = .returned (.bool true) ∧ Below W.heap.size W w' := by
  have h' : FX.tracerylaw04_GraphLists.f k (x0, x1, x2, ()) = some (show El (outTy FX.tracerylaw04_GraphLists.sig.outs) from true) := h
  have ho : unOut FX.tracerylaw04_GraphLists.sig.outs (show El (outTy FX.tracerylaw04_GraphLists.sig.outs) from true) = [⟨.bool, true⟩] := by kernel_rfl
  have hp : ParsRep (fun _ => none) W 0 FX.tracerylaw04_GraphLists.sig.pars (unTup FX.tracerylaw04_GraphLists.sig.ins (x0, x1, x2, ())) (#[v0, v1, v2] : Array Value).toList := (pars_cons y0 (pars_cons y1 (pars_cons y2 pars_nil)))
  exact law_calls (FX.tracerylaw04_GraphLists.sound k) rfl h' ho hp
set_option maxRecDepth 100000 in
theorem lifted (os : Os) (started : os.Started) (H : Type) (enc : TypeId × Value → H) :
    ReturnsInHanded {} Try.checked os 7 .any (Rows.graphListsSpec.pre6 enc Try.prog Try.f7 Rows.graphListsRow.domain false) (Rows.graphListsSpec.post enc Try.prog Try.f7 false true false false) := by
  refine returnsInHanded_of_change_sized (C := Try.checked) own started (by kernel_rfl) Try.func7
    (ChangeSpec.witness6 (enc := enc) (C := Try.checked) false ⟨#[], #[.agg #[.slice none 0 0, .slice none 0 0], .agg #[.slice none 0 0, .slice none 0 0], .int .i64 0], []⟩ 8 (by kernel_rfl) (by kernel_rfl) (by kernel_rfl) (by kernel_rfl)) ?_
  intro W base args ds gs before hval0 hW hcnd hsz0 _
  have hval : ∀ (j : Nat) t v, Try.f7.params[j]? = some t → args[j]? = some v → Value.okWide Try.prog W .any base t v := hval0
  have hW' := hW
  obtain ⟨p, q, hA0, hV, rfl, hfz, hnd⟩ := hW
  have hA : DataW.TrodAll enc Try.prog W 0 (fun _ => true) true Try.f7.params.toList args.toList ds p := hA0
  rw [Try.params7] at hA hval
  obtain ⟨v0, vs0, d0, ds0, p0, q0, hargs, rfl, rfl, h0, r0⟩ := trodAll_cons hA
  obtain ⟨v1, vs1, d1, ds1, p1, q1, rfl, rfl, rfl, h1, r1⟩ := trodAll_cons r0
  obtain ⟨v2, vs2, d2, ds2, p2, q2, rfl, rfl, rfl, h2, r2⟩ := trodAll_cons r1
  obtain ⟨rfl, rfl, rfl⟩ := trodAll_nil r2
  obtain rfl : args = #[v0, v1, v2] := by cases args; simp_all
  obtain ⟨rfl, rfl⟩ := trodVars_none hV
  have lt0 : ∀ x ∈ p0, x.block < W.heap.size := by obtain ⟨m, hm⟩ := h0; exact DataW.trod_lt m _ _ _ hm
  obtain ⟨x0, y0, w0⟩ := arg_opens ty0 (hval 0 29 v0 rfl rfl) h0
  have lt1 : ∀ x ∈ p1, x.block < W.heap.size := by obtain ⟨m, hm⟩ := h1; exact DataW.trod_lt m _ _ _ hm
  obtain ⟨x1, y1, w1⟩ := arg_opens ty1 (hval 1 29 v1 rfl rfl) h1
  have lt2 : ∀ x ∈ p2, x.block < W.heap.size := by obtain ⟨m, hm⟩ := h2; exact DataW.trod_lt m _ _ _ hm
  obtain ⟨x2, y2, w2⟩ := arg_opens ty2 (hval 2 3 v2 rfl rfl) h2
  clear hA0 hval0 hsz0
  obtain ⟨k, h⟩ := FX.tracerylaw04_GraphLists.holds x0 x1 x2 w0 w1 w2
  refine (called k y0 y1 y2 h).mono fun e W' ⟨he, bel⟩ => ?_
  subst he
  exact ⟨_, rfl, _, _, _, [], _, [], hW', trodAll_mk1 (shut_bool Try.underlying4 _), (trodAll_cons_mk (Below.trod laidOut (by kernel_rfl) (of_decide_eq_true (by kernel_rfl)) h0 bel lt0) (trodAll_cons_mk (Below.trod laidOut (by kernel_rfl) (of_decide_eq_true (by kernel_rfl)) h1 bel lt1) (trodAll_cons_mk (Below.trod laidOut (by kernel_rfl) (of_decide_eq_true (by kernel_rfl)) h2 bel lt2) trodAll_mk0))), rfl, bel.frame _, fun h => by cases h⟩
theorem over : Rows.graphListsRow.holds Try.pinned (OpenSpec.ofChange Rows.graphListsSpec) :=
  OpenClaim.holds_of_wide 7 Try.f7 rfl rfl rfl rfl rfl rfl rfl ⟨rfl, rfl, rfl, rfl, rfl⟩ rfl rfl rfl rfl rfl (by kernel_rfl) Try.func7 (by kernel_rfl)
    (of_decide_eq_true (by kernel_rfl)) (by unfold Func.isWrapper; first | (rw [if_pos (by decide +kernel)]; kernel_rfl) | (rw [if_neg (by decide +kernel)]; exact ⟨rfl, rfl⟩))
    (fun os started H enc _ => lifted os started H enc)
theorem proved : Rows.GraphListsSaid := over
#print axioms proved
end Go.Proofs.Ytbgefphoochgcaa.graphLists
namespace Go.Proofs.Ytbgefphoochgcaa
/-- The row, under a short name, for the claim. -/
theorem graphLists_holds : Rows.GraphListsSaid := graphLists.proved
end Go.Proofs.Ytbgefphoochgcaa
