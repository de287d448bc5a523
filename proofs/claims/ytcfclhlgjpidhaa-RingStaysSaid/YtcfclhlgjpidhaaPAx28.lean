-- Written by wip/tools/gprint.py of this repo (the kit's printer, some functions given).
import Derived.Test.YtcfclhlgjpidhaaPAx0
namespace Go.Proofs.Ytcfclhlgjpidhaa.PA
open Go.RowKit Go.Proofs.YtcfclhlgjpidhaaW.PrintWords Go.Proofs.YtcfclhlgjpidhaaW.PrintLast Go.Proofs.YtcfclhlgjpidhaaW.PrintMore
attribute [local go_sem] max2_int min2_int max_two min_two max_three min_three max_four min_four   -- for this text's walks alone
set_option linter.unusedVariables false
set_option linter.unusedSimpArgs false
set_option linter.unnecessarySimpa false

/-! ### tracerylaw02_even: function 21 -/
def tracerylaw02_even.f (a0 : Int) : Option (Bool) := some ((Int.tmod a0 2) == 0)
set_option maxHeartbeats 8000000 in
set_option maxRecDepth 100000 in
theorem tracerylaw02_even.calls (a0 : Int) (r : Bool) (w : World) (h : tracerylaw02_even.f a0 = some r) :
    Calls Try.prog 21 #[.int .i64 a0] w fun e w' => e = .returned (.bool r) ∧ Drawn0 w w' := by
  have H : (some ((Int.tmod a0 2) == 0)) = some r := h
  clear h
  obtain rfl := Option.some.inj H
  go_enter Try.func21, Try.ntmps21
  go_wp2
  go_ret
  exact ⟨by first | rfl | (simp; done) | (simp [*]; done), by repeat (first | exact Drawn0.refl _ | apply Drawn0.step)⟩

end Go.Proofs.Ytcfclhlgjpidhaa.PA
