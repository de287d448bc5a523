-- Written by wip/tools/gprint.py of this repo (the kit's printer, some functions given).
import Derived.Test.YtcfclhlgjpidhaaPAx0
import Derived.Test.YtcfclhlgjpidhaaPAx18
namespace Go.Proofs.Ytcfclhlgjpidhaa.PA
open Go.RowKit Go.Proofs.YtcfclhlgjpidhaaW.PrintWords Go.Proofs.YtcfclhlgjpidhaaW.PrintLast Go.Proofs.YtcfclhlgjpidhaaW.PrintMore
attribute [local go_sem] max2_int min2_int max_two min_two max_three min_three max_four min_four   -- for this text's walks alone
set_option linter.unusedVariables false
set_option linter.unusedSimpArgs false
set_option linter.unnecessarySimpa false

/-! ### ring_After: function 13 -/
def ring_After.f (k : Nat) (l0 : List Int) (a1 : Int) : Option (Int × Bool) := (ring_step.f k l0 a1 1).bind fun bt188 => (some (bt188.1, bt188.2))
theorem ring_After.mono : ∀ a0 a1 k, LeO (ring_After.f k a0 a1) (ring_After.f (k + 1) a0 a1) := by
  intro a0 a1 k
  unfold ring_After.f
  repeat' first
      | (with_reducible exact ring_step.mono _ _ _ _)
      | (with_reducible exact LeO.refl _)
      | (with_reducible exact LeO.none _)
      | (with_reducible refine LeO.ite ?_ ?_)
      | (with_reducible refine LeO.bind ?_ (fun _ => ?_))
      | exact ring_step.mono _ _ _ _
      | exact LeO.none _
      | refine LeO.ite ?_ ?_
      | refine LeO.bind ?_ (fun _ => ?_)
set_option maxHeartbeats 8000000 in
set_option maxRecDepth 100000 in
theorem ring_After.calls (k : Nat) (A0 : Option Addr) (c0 : Nat) (l0 : List Int) (a1 : Int) (r1 : Int) (r2 : Bool) (w : World) (hr0 : Kd.C (Kd.int .i64) w A0 l0.length l0) (hc0 : l0.length ≤ c0) (h : ring_After.f k l0 a1 = some (r1, r2)) :
    Calls Try.prog 13 #[.slice A0 l0.length c0, .int .i64 a1] w fun e w' => e = .returned (.tuple #[.int .i64 r1, .bool r2]) ∧ Drawn0 w w' := by
  have HR0 := Aside0.mk hr0
  have HC0 := Aside0.mk hc0
  clear hr0 hc0
  have H : ((ring_step.f k l0 a1 1).bind fun bt188 => (some (bt188.1, bt188.2))) = some (r1, r2) := h
  clear h
  replace H := Option.bind_eq_some_iff.mp H
  obtain ⟨⟨t188, t189⟩, A30, H⟩ := H
  replace H : (some (t188, t189)) = some (r1, r2) := H
  have A3 := Aside0.mk A30
  clear A30
  simp only [Option.some.injEq, Prod.mk.injEq] at H
  obtain ⟨rfl, rfl⟩ := H
  go_enter Try.func13, Try.ntmps13
  go_wp2_with (first | ((with_reducible refine gate_callee (f := 30) rfl ?_); refine goesL_ (some 8) rfl rfl Try.func30 (by kernel_rfl) rfl #[.slice A0 l0.length c0, .int .i64 a1, .int .i64 1] rfl (by (try simp only [List.map_toArray, List.map_cons, List.map_nil]); first | done | rfl | (simp only [List.length_drop, List.length_take]; rfl)) ?_; (with_reducible refine (ring_step.calls k _ _ l0 a1 1 t188 t189 _ ?side1 ?side2 A3.out).mono ?_); (case side1 => repeat (first | exact HR0.out | (with_reducible refine Kd.C_alloc ?_ _) | (with_reducible refine Kd.C_drewN ?_ _) | (with_reducible refine Kd.C_drew ?_))); (case side2 => exact HC0.out); rintro e w' ⟨rfl, ⟨nd, rfl⟩⟩; refine ⟨_, rfl, ?_⟩))
  go_ret2
  exact ⟨by first | rfl | (simp; done) | (simp [*]; done), by repeat (first | exact Drawn0.refl _ | apply Drawn0.step)⟩

end Go.Proofs.Ytcfclhlgjpidhaa.PA
