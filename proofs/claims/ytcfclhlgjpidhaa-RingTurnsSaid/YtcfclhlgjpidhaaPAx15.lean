-- Written by wip/tools/gprint.py of this repo (the kit's printer, some functions given).
import Derived.Test.YtcfclhlgjpidhaaPAx0
import Derived.Test.YtcfclhlgjpidhaaPAx14
namespace Go.Proofs.Ytcfclhlgjpidhaa.PA
open Go.RowKit Go.Proofs.YtcfclhlgjpidhaaW.PrintWords Go.Proofs.YtcfclhlgjpidhaaW.PrintLast Go.Proofs.YtcfclhlgjpidhaaW.PrintMore
attribute [local go_sem] max2_int min2_int max_two min_two max_three min_three max_four min_four   -- for this text's walks alone
set_option linter.unusedVariables false
set_option linter.unusedSimpArgs false
set_option linter.unnecessarySimpa false

/-! ### traceryref02_Right: function 28 -/
def traceryref02_Right.l0 : Nat → List Int → Int → Option (Bool)
  | 0, _, _ => none
  | k + 1, x0, x3 => if x3 < (x0.length : Int) then (if 0 ≤ x3 then ((traceryref02_Find.f k x0 (rd x0 x3)).bind fun t157 => (if t157 < x3 then (some false) else (traceryref02_Right.l0 k x0 (wrap64 (x3 + 1))))) else (none)) else (some true)
def traceryref02_Right.f (k : Nat) (l0 : List Int) : Option (Bool) := traceryref02_Right.l0 k l0 0
theorem traceryref02_Right.mono_l : ∀ k, (∀ y0 y1, LeO (traceryref02_Right.l0 k y0 y1) (traceryref02_Right.l0 (k + 1) y0 y1))
  | 0 => fun _ _ r h => by simp [traceryref02_Right.l0] at h
  | k + 1 => by
    have ih0 := traceryref02_Right.mono_l k
    · intro y0 y1
      unfold traceryref02_Right.l0
      repeat' first
      | (with_reducible exact ih0 _ _)
      | (with_reducible exact traceryref02_Find.mono _ _ _)
      | (with_reducible exact LeO.refl _)
      | (with_reducible exact LeO.none _)
      | (with_reducible refine LeO.ite ?_ ?_)
      | (with_reducible refine LeO.bind ?_ (fun _ => ?_))
      | exact ih0 _ _
      | exact traceryref02_Find.mono _ _ _
      | exact LeO.none _
      | refine LeO.ite ?_ ?_
      | refine LeO.bind ?_ (fun _ => ?_)
theorem traceryref02_Right.mono : ∀ a0 k, LeO (traceryref02_Right.f k a0) (traceryref02_Right.f (k + 1) a0) := by
  intro a0 k
  have ih0 := traceryref02_Right.mono_l k
  unfold traceryref02_Right.f
  repeat' first
      | (with_reducible exact ih0 _ _)
      | (with_reducible exact traceryref02_Find.mono _ _ _)
      | (with_reducible exact LeO.refl _)
      | (with_reducible exact LeO.none _)
      | (with_reducible refine LeO.ite ?_ ?_)
      | (with_reducible refine LeO.bind ?_ (fun _ => ?_))
      | exact ih0 _ _
      | exact traceryref02_Find.mono _ _ _
      | exact LeO.none _
      | refine LeO.ite ?_ ?_
      | refine LeO.bind ?_ (fun _ => ?_)
set_option maxHeartbeats 8000000 in
set_option maxRecDepth 100000 in
theorem traceryref02_Right.calls (k : Nat) (A0 : Option Addr) (c0 : Nat) (l0 : List Int) (r : Bool) (w : World) (hr0 : Kd.C (Kd.int .i64) w A0 l0.length l0) (hc0 : l0.length ≤ c0) (h : traceryref02_Right.f k l0 = some r) :
    Calls Try.prog 28 #[.slice A0 l0.length c0] w fun e w' => e = .returned (.bool r) ∧ Drawn0 w w' := by
  have HR0 := Aside0.mk hr0
  have HC0 := Aside0.mk hc0
  clear hr0 hc0
  have H : (traceryref02_Right.l0 k l0 0) = some r := h
  clear h
  have H' := Aside0.mk H
  clear H
  go_enter Try.func28, Try.ntmps28
  go_wp2
  go_loopg [3] k (fun kq v3 w' => ∃ (x3_1 : Int), v3 = .int .i64 x3_1 ∧ Aside0 (traceryref02_Right.l0 kq l0 x3_1 = some r) ∧ Aside0 (kq ≤ k) ∧ Drawn0 w w')
  case atStart => exact ⟨(0), (by first | rfl | (simp; done) | (simp [*]; done)), H', ⟨Nat.le_refl _⟩, by repeat (first | exact Drawn0.refl _ | apply Drawn0.step)⟩
  case round =>
    clear H'
    obtain ⟨x3_1, rfl, HA, HK1, ⟨m1, rfl⟩⟩ := hrel
    cases gk with
    | zero => exact absurd HA.out (by simp [traceryref02_Right.l0])
    | succ k1 =>
      have H := HA.out
      clear HA
      simp only [traceryref02_Right.l0] at H
      by_cases c2 : x3_1 < (l0.length : Int)
      · rw [if_pos c2] at H
        have c2b0 : decide (x3_1 < (l0.length : Int)) = true := decide_eq_true c2
        clear c2
        by_cases c3 : 0 ≤ x3_1
        · rw [if_pos c3] at H
          have c3b0 : decide (0 ≤ x3_1) = true := decide_eq_true c3
          clear c3
          replace H := Option.bind_eq_some_iff.mp H
          obtain ⟨t157, A40, H⟩ := H
          replace H : (if t157 < x3_1 then (some false) else (traceryref02_Right.l0 k1 l0 (wrap64 (x3_1 + 1)))) = some r := H
          have A4 := Aside0.mk A40
          clear A40
          by_cases c5 : t157 < x3_1
          · rw [if_pos c5] at H
            have c5b0 : decide (t157 < x3_1) = true := decide_eq_true c5
            clear c5
            obtain rfl := Option.some.inj H
            have p156 : 0 ≤ (x3_1 : Int) := of_decide_eq_true (by first | (with_reducible assumption) | assumption)
            have q156 : x3_1 < (l0.length : Int) := of_decide_eq_true (by first | (with_reducible assumption) | assumption)
            obtain ⟨ad156, e156, hx156_0⟩ := Kd.at_int HR0.out x3_1 p156 q156
            cases e156
            replace p156 := eq_true p156
            replace q156 := eq_true q156
            go_wp2_with (first | ((with_reducible refine gate_callee (f := 23) rfl ?_); refine goesL_ (some 15) rfl rfl Try.func23 (by kernel_rfl) rfl #[.slice (some ad156) l0.length c0, .int .i64 (rd l0 x3_1)] rfl (by (try simp only [List.map_toArray, List.map_cons, List.map_nil]); first | done | rfl | (simp only [List.length_drop, List.length_take]; rfl)) ?_; (with_reducible refine (traceryref02_Find.calls k1 _ _ l0 (rd l0 x3_1) t157 _ ?side1 ?side2 A4.out).mono ?_); (case side1 => repeat (first | exact HR0.out | (with_reducible refine Kd.C_alloc ?_ _) | (with_reducible refine Kd.C_drewN ?_ _) | (with_reducible refine Kd.C_drew ?_))); (case side2 => exact HC0.out); rintro e w' ⟨rfl, ⟨nd, rfl⟩⟩; refine ⟨_, rfl, ?_⟩))
            go_ret
            exact ⟨by first | rfl | (simp; done) | (simp [*]; done), by repeat (first | exact Drawn0.refl _ | apply Drawn0.step)⟩
          · rw [if_neg c5] at H
            have c5b0 : decide (t157 < x3_1) = false := decide_eq_false c5
            clear c5
            have H' := Aside0.mk H
            clear H
            have p156 : 0 ≤ (x3_1 : Int) := of_decide_eq_true (by first | (with_reducible assumption) | assumption)
            have q156 : x3_1 < (l0.length : Int) := of_decide_eq_true (by first | (with_reducible assumption) | assumption)
            obtain ⟨ad156, e156, hx156_0⟩ := Kd.at_int HR0.out x3_1 p156 q156
            cases e156
            replace p156 := eq_true p156
            replace q156 := eq_true q156
            go_wp2_with (first | ((with_reducible refine gate_callee (f := 23) rfl ?_); refine goesL_ (some 15) rfl rfl Try.func23 (by kernel_rfl) rfl #[.slice (some ad156) l0.length c0, .int .i64 (rd l0 x3_1)] rfl (by (try simp only [List.map_toArray, List.map_cons, List.map_nil]); first | done | rfl | (simp only [List.length_drop, List.length_take]; rfl)) ?_; (with_reducible refine (traceryref02_Find.calls k1 _ _ l0 (rd l0 x3_1) t157 _ ?side1 ?side2 A4.out).mono ?_); (case side1 => repeat (first | exact HR0.out | (with_reducible refine Kd.C_alloc ?_ _) | (with_reducible refine Kd.C_drewN ?_ _) | (with_reducible refine Kd.C_drew ?_))); (case side2 => exact HC0.out); rintro e w' ⟨rfl, ⟨nd, rfl⟩⟩; refine ⟨_, rfl, ?_⟩))
            go_roundg k1
            case measure => have := HK1.out; omega
            case rel => exact ⟨(wrap64 (x3_1 + 1)), (by first | rfl | (simp; done) | (simp [*]; done)), H', ⟨by have := HK1.out; omega⟩, by repeat (first | exact Drawn0.refl _ | apply Drawn0.step)⟩
        · rw [if_neg c3] at H
          exact absurd H (by simp)
      · rw [if_neg c2] at H
        have c2b0 : decide (x3_1 < (l0.length : Int)) = false := decide_eq_false c2
        clear c2
        obtain rfl := Option.some.inj H
        go_wp2
        go_ret
        exact ⟨by first | rfl | (simp; done) | (simp [*]; done), by repeat (first | exact Drawn0.refl _ | apply Drawn0.step)⟩

end Go.Proofs.Ytcfclhlgjpidhaa.PA
