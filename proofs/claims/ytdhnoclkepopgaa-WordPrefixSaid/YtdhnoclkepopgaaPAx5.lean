-- Written by wip/tools/gprint.py of this repo (the kit's printer, some functions given).
import Derived.Test.YtdhnoclkepopgaaPAx0
namespace Go.Proofs.Ytdhnoclkepopgaa.PA
open Go.RowKit Go.Proofs.YtdhnoclkepopgaaW.PrintWords Go.Proofs.YtdhnoclkepopgaaW.PrintLast Go.Proofs.YtdhnoclkepopgaaW.PrintMore
attribute [local go_sem] max2_int min2_int max_two min_two max_three min_three max_four min_four   -- for this text's walks alone
set_option linter.unusedVariables false
set_option linter.unusedSimpArgs false
set_option linter.unnecessarySimpa false

/-! ### word_plain: function 23 -/
def word_plain.f (a0 : Int) : Option (Bool) := if a0 = 10 then (some true) else (if a0 ≥ 43 then (if a0 ≤ 47 then (some true) else (if a0 = 58 then (some true) else (some (a0 == 124)))) else (if a0 = 58 then (some true) else (some (a0 == 124))))
set_option maxHeartbeats 8000000 in
set_option maxRecDepth 100000 in
theorem word_plain.calls (a0 : Int) (r : Bool) (w : World) (h : word_plain.f a0 = some r) :
    Calls Try.prog 23 #[.int .i32 a0] w fun e w' => e = .returned (.bool r) ∧ Drawn0 w w' := by
  have H : (if a0 = 10 then (some true) else (if a0 ≥ 43 then (if a0 ≤ 47 then (some true) else (if a0 = 58 then (some true) else (some (a0 == 124)))) else (if a0 = 58 then (some true) else (some (a0 == 124))))) = some r := h
  clear h
  by_cases c2 : a0 = 10
  · rw [if_pos c2] at H
    have c2b0 : (a0 == 10) = true := beq_iff_eq.mpr c2
    have c2b1 : (a0 != 10) = false := bne_eq_false_iff_eq.mpr c2
    clear c2
    obtain rfl := Option.some.inj H
    go_enter Try.func23, Try.ntmps23
    go_wp2
    go_ret
    exact ⟨by first | rfl | (simp; done) | (simp [*]; done), by repeat (first | exact Drawn0.refl _ | apply Drawn0.step)⟩
  · rw [if_neg c2] at H
    have c2b0 : (a0 == 10) = false := beq_eq_false_iff_ne.mpr c2
    have c2b1 : (a0 != 10) = true := bne_iff_ne.mpr c2
    by_cases c3 : a0 ≥ 43
    · rw [if_pos c3] at H
      have c3b0 : decide (43 ≤ a0) = true := decide_eq_true c3
      clear c3
      by_cases c4 : a0 ≤ 47
      · rw [if_pos c4] at H
        have c4b0 : decide (a0 ≤ 47) = true := decide_eq_true c4
        clear c4
        obtain rfl := Option.some.inj H
        go_enter Try.func23, Try.ntmps23
        go_wp2
        go_ret
        exact ⟨by first | rfl | (simp; done) | (simp [*]; done), by repeat (first | exact Drawn0.refl _ | apply Drawn0.step)⟩
      · rw [if_neg c4] at H
        have c4b0 : decide (a0 ≤ 47) = false := decide_eq_false c4
        clear c4
        by_cases c5 : a0 = 58
        · rw [if_pos c5] at H
          have c5b0 : (a0 == 58) = true := beq_iff_eq.mpr c5
          have c5b1 : (a0 != 58) = false := bne_eq_false_iff_eq.mpr c5
          clear c5
          obtain rfl := Option.some.inj H
          go_enter Try.func23, Try.ntmps23
          go_wp2
          go_ret
          exact ⟨by first | rfl | (simp; done) | (simp [*]; done), by repeat (first | exact Drawn0.refl _ | apply Drawn0.step)⟩
        · rw [if_neg c5] at H
          have c5b0 : (a0 == 58) = false := beq_eq_false_iff_ne.mpr c5
          have c5b1 : (a0 != 58) = true := bne_iff_ne.mpr c5
          obtain rfl := Option.some.inj H
          go_enter Try.func23, Try.ntmps23
          go_wp2
          go_ret
          exact ⟨by first | rfl | (simp; done) | (simp [*]; done), by repeat (first | exact Drawn0.refl _ | apply Drawn0.step)⟩
    · rw [if_neg c3] at H
      have c3b0 : decide (43 ≤ a0) = false := decide_eq_false c3
      clear c3
      by_cases c6 : a0 = 58
      · rw [if_pos c6] at H
        have c6b0 : (a0 == 58) = true := beq_iff_eq.mpr c6
        have c6b1 : (a0 != 58) = false := bne_eq_false_iff_eq.mpr c6
        clear c6
        obtain rfl := Option.some.inj H
        go_enter Try.func23, Try.ntmps23
        go_wp2
        go_ret
        exact ⟨by first | rfl | (simp; done) | (simp [*]; done), by repeat (first | exact Drawn0.refl _ | apply Drawn0.step)⟩
      · rw [if_neg c6] at H
        have c6b0 : (a0 == 58) = false := beq_eq_false_iff_ne.mpr c6
        have c6b1 : (a0 != 58) = true := bne_iff_ne.mpr c6
        obtain rfl := Option.some.inj H
        go_enter Try.func23, Try.ntmps23
        go_wp2
        go_ret
        exact ⟨by first | rfl | (simp; done) | (simp [*]; done), by repeat (first | exact Drawn0.refl _ | apply Drawn0.step)⟩

end Go.Proofs.Ytdhnoclkepopgaa.PA
