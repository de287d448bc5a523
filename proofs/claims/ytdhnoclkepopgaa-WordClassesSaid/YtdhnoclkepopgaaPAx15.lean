-- Written by wip/tools/gprint.py of this repo (the kit's printer, some functions given).
import Derived.Test.YtdhnoclkepopgaaPAx0
import Derived.Test.YtdhnoclkepopgaaPAx13
import Derived.Test.YtdhnoclkepopgaaPAx14
namespace Go.Proofs.Ytdhnoclkepopgaa.PA
open Go.RowKit Go.Proofs.YtdhnoclkepopgaaW.PrintWords Go.Proofs.YtdhnoclkepopgaaW.PrintLast Go.Proofs.YtdhnoclkepopgaaW.PrintMore
attribute [local go_sem] max2_int min2_int max_two min_two max_three min_three max_four min_four   -- for this text's walks alone
set_option linter.unusedVariables false
set_option linter.unusedSimpArgs false
set_option linter.unnecessarySimpa false

/-! ### traceryref01_Bad: function 16 -/
def traceryref01_Bad.l0 : Nat → ByteArray → Int → Option (Int)
  | 0, _, _ => none
  | k + 1, x0, x3 => if x3 < (x0.size : Int) then ((traceryref01_Rune.f k x0 x3).bind fun bt136 => (if bt136.1 < 0 then (some x3) else (if bt136.1 = 65533 then (some x3) else ((traceryref01_Class.f k bt136.1).bind fun t138 => (if t138 = 0 then (if bt136.1 = 10 then (traceryref01_Bad.l0 k x0 (wrap64 (x3 + bt136.2))) else (if bt136.1 < 43 then (if bt136.1 = 58 then (traceryref01_Bad.l0 k x0 (wrap64 (x3 + bt136.2))) else (if bt136.1 = 124 then (traceryref01_Bad.l0 k x0 (wrap64 (x3 + bt136.2))) else (some x3))) else (if bt136.1 > 47 then (if bt136.1 = 58 then (traceryref01_Bad.l0 k x0 (wrap64 (x3 + bt136.2))) else (if bt136.1 = 124 then (traceryref01_Bad.l0 k x0 (wrap64 (x3 + bt136.2))) else (some x3))) else (traceryref01_Bad.l0 k x0 (wrap64 (x3 + bt136.2)))))) else (traceryref01_Bad.l0 k x0 (wrap64 (x3 + bt136.2)))))))) else (some (-1))
def traceryref01_Bad.f (k : Nat) (a0 : ByteArray) : Option (Int) := traceryref01_Bad.l0 k a0 0
theorem traceryref01_Bad.mono_l : ∀ k, (∀ y0 y1, LeO (traceryref01_Bad.l0 k y0 y1) (traceryref01_Bad.l0 (k + 1) y0 y1))
  | 0 => fun _ _ r h => by simp [traceryref01_Bad.l0] at h
  | k + 1 => by
    have ih0 := traceryref01_Bad.mono_l k
    · intro y0 y1
      unfold traceryref01_Bad.l0
      repeat' first
      | (with_reducible exact ih0 _ _)
      | (with_reducible exact traceryref01_Class.mono _ _)
      | (with_reducible exact traceryref01_Rune.mono _ _ _)
      | (with_reducible exact LeO.refl _)
      | (with_reducible exact LeO.none _)
      | (with_reducible refine LeO.ite ?_ ?_)
      | (with_reducible refine LeO.bind ?_ (fun _ => ?_))
      | exact ih0 _ _
      | exact traceryref01_Class.mono _ _
      | exact traceryref01_Rune.mono _ _ _
      | exact LeO.none _
      | refine LeO.ite ?_ ?_
      | refine LeO.bind ?_ (fun _ => ?_)
theorem traceryref01_Bad.mono : ∀ a0 k, LeO (traceryref01_Bad.f k a0) (traceryref01_Bad.f (k + 1) a0) := by
  intro a0 k
  have ih0 := traceryref01_Bad.mono_l k
  unfold traceryref01_Bad.f
  repeat' first
      | (with_reducible exact ih0 _ _)
      | (with_reducible exact traceryref01_Class.mono _ _)
      | (with_reducible exact traceryref01_Rune.mono _ _ _)
      | (with_reducible exact LeO.refl _)
      | (with_reducible exact LeO.none _)
      | (with_reducible refine LeO.ite ?_ ?_)
      | (with_reducible refine LeO.bind ?_ (fun _ => ?_))
      | exact ih0 _ _
      | exact traceryref01_Class.mono _ _
      | exact traceryref01_Rune.mono _ _ _
      | exact LeO.none _
      | refine LeO.ite ?_ ?_
      | refine LeO.bind ?_ (fun _ => ?_)
set_option maxHeartbeats 8000000 in
set_option maxRecDepth 100000 in
theorem traceryref01_Bad.calls (k : Nat) (a0 : ByteArray) (r : Int) (w : World) (h : traceryref01_Bad.f k a0 = some r) :
    Calls Try.prog 16 #[.string a0] w fun e w' => e = .returned (.int .i64 r) ∧ Drawn0 w w' := by
  have H : (traceryref01_Bad.l0 k a0 0) = some r := h
  clear h
  have H' := Aside0.mk H
  clear H
  go_enter Try.func16, Try.ntmps16
  go_wp2
  go_loopg [3] k (fun kq v3 w' => ∃ (x3_1 : Int), v3 = .int .i64 x3_1 ∧ Aside0 (traceryref01_Bad.l0 kq a0 x3_1 = some r) ∧ Aside0 (kq ≤ k) ∧ Drawn0 w w')
  case atStart => exact ⟨(0), (by first | rfl | (simp; done) | (simp [*]; done)), H', ⟨Nat.le_refl _⟩, by repeat (first | exact Drawn0.refl _ | apply Drawn0.step)⟩
  case round =>
    clear H'
    try clear c1
    obtain ⟨x3_1, rfl, HA, HK1, ⟨m1, rfl⟩⟩ := hrel
    cases gk with
    | zero => exact absurd HA.out (by simp [traceryref01_Bad.l0])
    | succ k1 =>
      have H := HA.out
      clear HA
      simp only [traceryref01_Bad.l0] at H
      by_cases c2 : x3_1 < (a0.size : Int)
      · rw [if_pos c2] at H
        have c2b0 : decide (x3_1 < (a0.size : Int)) = true := decide_eq_true c2
        clear c2
        replace H := Option.bind_eq_some_iff.mp H
        obtain ⟨⟨t136, t137⟩, A30, H⟩ := H
        replace H : (if t136 < 0 then (some x3_1) else (if t136 = 65533 then (some x3_1) else ((traceryref01_Class.f k1 t136).bind fun t138 => (if t138 = 0 then (if t136 = 10 then (traceryref01_Bad.l0 k1 a0 (wrap64 (x3_1 + t137))) else (if t136 < 43 then (if t136 = 58 then (traceryref01_Bad.l0 k1 a0 (wrap64 (x3_1 + t137))) else (if t136 = 124 then (traceryref01_Bad.l0 k1 a0 (wrap64 (x3_1 + t137))) else (some x3_1))) else (if t136 > 47 then (if t136 = 58 then (traceryref01_Bad.l0 k1 a0 (wrap64 (x3_1 + t137))) else (if t136 = 124 then (traceryref01_Bad.l0 k1 a0 (wrap64 (x3_1 + t137))) else (some x3_1))) else (traceryref01_Bad.l0 k1 a0 (wrap64 (x3_1 + t137)))))) else (traceryref01_Bad.l0 k1 a0 (wrap64 (x3_1 + t137))))))) = some r := H
        have A3 := Aside0.mk A30
        clear A30
        by_cases c4 : t136 < 0
        · rw [if_pos c4] at H
          have c4b0 : decide (t136 < 0) = true := decide_eq_true c4
          clear c4
          obtain rfl := Option.some.inj H
          go_wp2_with (first | ((with_reducible refine gate_callee (f := 24) rfl ?_); refine goesL_ (some 13) rfl rfl Try.func24 (by kernel_rfl) rfl #[.string a0, .int .i64 x3_1] rfl (by (try simp only [List.map_toArray, List.map_cons, List.map_nil]); first | done | rfl | (simp only [List.length_drop, List.length_take]; rfl)) ?_; (with_reducible refine (traceryref01_Rune.calls k1 a0 x3_1 t136 t137 _ A3.out).mono ?_); rintro e w' ⟨rfl, ⟨nd, rfl⟩⟩; refine ⟨_, rfl, ?_⟩))
          go_ret
          exact ⟨by first | rfl | (simp; done) | (simp [*]; done), by repeat (first | exact Drawn0.refl _ | apply Drawn0.step)⟩
        · rw [if_neg c4] at H
          have c4b0 : decide (t136 < 0) = false := decide_eq_false c4
          clear c4
          by_cases c5 : t136 = 65533
          · rw [if_pos c5] at H
            have c5b0 : (t136 == 65533) = true := beq_iff_eq.mpr c5
            have c5b1 : (t136 != 65533) = false := bne_eq_false_iff_eq.mpr c5
            clear c5
            obtain rfl := Option.some.inj H
            go_wp2_with (first | ((with_reducible refine gate_callee (f := 24) rfl ?_); refine goesL_ (some 13) rfl rfl Try.func24 (by kernel_rfl) rfl #[.string a0, .int .i64 x3_1] rfl (by (try simp only [List.map_toArray, List.map_cons, List.map_nil]); first | done | rfl | (simp only [List.length_drop, List.length_take]; rfl)) ?_; (with_reducible refine (traceryref01_Rune.calls k1 a0 x3_1 t136 t137 _ A3.out).mono ?_); rintro e w' ⟨rfl, ⟨nd, rfl⟩⟩; refine ⟨_, rfl, ?_⟩))
            go_ret
            exact ⟨by first | rfl | (simp; done) | (simp [*]; done), by repeat (first | exact Drawn0.refl _ | apply Drawn0.step)⟩
          · rw [if_neg c5] at H
            have c5b0 : (t136 == 65533) = false := beq_eq_false_iff_ne.mpr c5
            have c5b1 : (t136 != 65533) = true := bne_iff_ne.mpr c5
            replace H := Option.bind_eq_some_iff.mp H
            obtain ⟨t138, A60, H⟩ := H
            replace H : (if t138 = 0 then (if t136 = 10 then (traceryref01_Bad.l0 k1 a0 (wrap64 (x3_1 + t137))) else (if t136 < 43 then (if t136 = 58 then (traceryref01_Bad.l0 k1 a0 (wrap64 (x3_1 + t137))) else (if t136 = 124 then (traceryref01_Bad.l0 k1 a0 (wrap64 (x3_1 + t137))) else (some x3_1))) else (if t136 > 47 then (if t136 = 58 then (traceryref01_Bad.l0 k1 a0 (wrap64 (x3_1 + t137))) else (if t136 = 124 then (traceryref01_Bad.l0 k1 a0 (wrap64 (x3_1 + t137))) else (some x3_1))) else (traceryref01_Bad.l0 k1 a0 (wrap64 (x3_1 + t137)))))) else (traceryref01_Bad.l0 k1 a0 (wrap64 (x3_1 + t137)))) = some r := H
            have A6 := Aside0.mk A60
            clear A60
            by_cases c7 : t138 = 0
            · rw [if_pos c7] at H
              have c7b0 : (t138 == 0) = true := beq_iff_eq.mpr c7
              have c7b1 : (t138 != 0) = false := bne_eq_false_iff_eq.mpr c7
              clear c7
              by_cases c8 : t136 = 10
              · rw [if_pos c8] at H
                have c8b0 : (t136 == 10) = true := beq_iff_eq.mpr c8
                have c8b1 : (t136 != 10) = false := bne_eq_false_iff_eq.mpr c8
                clear c8
                have H' := Aside0.mk H
                clear H
                go_wp2_with (first | ((with_reducible refine gate_callee (f := 24) rfl ?_); refine goesL_ (some 13) rfl rfl Try.func24 (by kernel_rfl) rfl #[.string a0, .int .i64 x3_1] rfl (by (try simp only [List.map_toArray, List.map_cons, List.map_nil]); first | done | rfl | (simp only [List.length_drop, List.length_take]; rfl)) ?_; (with_reducible refine (traceryref01_Rune.calls k1 a0 x3_1 t136 t137 _ A3.out).mono ?_); rintro e w' ⟨rfl, ⟨nd, rfl⟩⟩; refine ⟨_, rfl, ?_⟩) | (go_at_call 18; (with_reducible refine (traceryref01_Class.calls k1 t136 t138 _ A6.out).mono ?_); rintro e w' ⟨rfl, ⟨nd, rfl⟩⟩))
                go_roundg k1
                case measure => have := HK1.out; omega
                case rel => exact ⟨(wrap64 (x3_1 + t137)), (by first | rfl | (simp; done) | (simp [*]; done)), H', ⟨by have := HK1.out; omega⟩, by repeat (first | exact Drawn0.refl _ | apply Drawn0.step)⟩
              · rw [if_neg c8] at H
                have c8b0 : (t136 == 10) = false := beq_eq_false_iff_ne.mpr c8
                have c8b1 : (t136 != 10) = true := bne_iff_ne.mpr c8
                by_cases c9 : t136 < 43
                · rw [if_pos c9] at H
                  have c9b0 : decide (t136 < 43) = true := decide_eq_true c9
                  clear c9
                  by_cases c10 : t136 = 58
                  · rw [if_pos c10] at H
                    have c10b0 : (t136 == 58) = true := beq_iff_eq.mpr c10
                    have c10b1 : (t136 != 58) = false := bne_eq_false_iff_eq.mpr c10
                    clear c10
                    have H' := Aside0.mk H
                    clear H
                    go_wp2_with (first | ((with_reducible refine gate_callee (f := 24) rfl ?_); refine goesL_ (some 13) rfl rfl Try.func24 (by kernel_rfl) rfl #[.string a0, .int .i64 x3_1] rfl (by (try simp only [List.map_toArray, List.map_cons, List.map_nil]); first | done | rfl | (simp only [List.length_drop, List.length_take]; rfl)) ?_; (with_reducible refine (traceryref01_Rune.calls k1 a0 x3_1 t136 t137 _ A3.out).mono ?_); rintro e w' ⟨rfl, ⟨nd, rfl⟩⟩; refine ⟨_, rfl, ?_⟩) | (go_at_call 18; (with_reducible refine (traceryref01_Class.calls k1 t136 t138 _ A6.out).mono ?_); rintro e w' ⟨rfl, ⟨nd, rfl⟩⟩))
                    go_roundg k1
                    case measure => have := HK1.out; omega
                    case rel => exact ⟨(wrap64 (x3_1 + t137)), (by first | rfl | (simp; done) | (simp [*]; done)), H', ⟨by have := HK1.out; omega⟩, by repeat (first | exact Drawn0.refl _ | apply Drawn0.step)⟩
                  · rw [if_neg c10] at H
                    have c10b0 : (t136 == 58) = false := beq_eq_false_iff_ne.mpr c10
                    have c10b1 : (t136 != 58) = true := bne_iff_ne.mpr c10
                    by_cases c11 : t136 = 124
                    · rw [if_pos c11] at H
                      have c11b0 : (t136 == 124) = true := beq_iff_eq.mpr c11
                      have c11b1 : (t136 != 124) = false := bne_eq_false_iff_eq.mpr c11
                      clear c11
                      have H' := Aside0.mk H
                      clear H
                      go_wp2_with (first | ((with_reducible refine gate_callee (f := 24) rfl ?_); refine goesL_ (some 13) rfl rfl Try.func24 (by kernel_rfl) rfl #[.string a0, .int .i64 x3_1] rfl (by (try simp only [List.map_toArray, List.map_cons, List.map_nil]); first | done | rfl | (simp only [List.length_drop, List.length_take]; rfl)) ?_; (with_reducible refine (traceryref01_Rune.calls k1 a0 x3_1 t136 t137 _ A3.out).mono ?_); rintro e w' ⟨rfl, ⟨nd, rfl⟩⟩; refine ⟨_, rfl, ?_⟩) | (go_at_call 18; (with_reducible refine (traceryref01_Class.calls k1 t136 t138 _ A6.out).mono ?_); rintro e w' ⟨rfl, ⟨nd, rfl⟩⟩))
                      go_roundg k1
                      case measure => have := HK1.out; omega
                      case rel => exact ⟨(wrap64 (x3_1 + t137)), (by first | rfl | (simp; done) | (simp [*]; done)), H', ⟨by have := HK1.out; omega⟩, by repeat (first | exact Drawn0.refl _ | apply Drawn0.step)⟩
                    · rw [if_neg c11] at H
                      have c11b0 : (t136 == 124) = false := beq_eq_false_iff_ne.mpr c11
                      have c11b1 : (t136 != 124) = true := bne_iff_ne.mpr c11
                      obtain rfl := Option.some.inj H
                      go_wp2_with (first | ((with_reducible refine gate_callee (f := 24) rfl ?_); refine goesL_ (some 13) rfl rfl Try.func24 (by kernel_rfl) rfl #[.string a0, .int .i64 x3_1] rfl (by (try simp only [List.map_toArray, List.map_cons, List.map_nil]); first | done | rfl | (simp only [List.length_drop, List.length_take]; rfl)) ?_; (with_reducible refine (traceryref01_Rune.calls k1 a0 x3_1 t136 t137 _ A3.out).mono ?_); rintro e w' ⟨rfl, ⟨nd, rfl⟩⟩; refine ⟨_, rfl, ?_⟩) | (go_at_call 18; (with_reducible refine (traceryref01_Class.calls k1 t136 t138 _ A6.out).mono ?_); rintro e w' ⟨rfl, ⟨nd, rfl⟩⟩))
                      go_ret
                      exact ⟨by first | rfl | (simp; done) | (simp [*]; done), by repeat (first | exact Drawn0.refl _ | apply Drawn0.step)⟩
                · rw [if_neg c9] at H
                  have c9b0 : decide (t136 < 43) = false := decide_eq_false c9
                  clear c9
                  by_cases c12 : t136 > 47
                  · rw [if_pos c12] at H
                    have c12b0 : decide (47 < t136) = true := decide_eq_true c12
                    clear c12
                    by_cases c13 : t136 = 58
                    · rw [if_pos c13] at H
                      have c13b0 : (t136 == 58) = true := beq_iff_eq.mpr c13
                      have c13b1 : (t136 != 58) = false := bne_eq_false_iff_eq.mpr c13
                      clear c13
                      have H' := Aside0.mk H
                      clear H
                      go_wp2_with (first | ((with_reducible refine gate_callee (f := 24) rfl ?_); refine goesL_ (some 13) rfl rfl Try.func24 (by kernel_rfl) rfl #[.string a0, .int .i64 x3_1] rfl (by (try simp only [List.map_toArray, List.map_cons, List.map_nil]); first | done | rfl | (simp only [List.length_drop, List.length_take]; rfl)) ?_; (with_reducible refine (traceryref01_Rune.calls k1 a0 x3_1 t136 t137 _ A3.out).mono ?_); rintro e w' ⟨rfl, ⟨nd, rfl⟩⟩; refine ⟨_, rfl, ?_⟩) | (go_at_call 18; (with_reducible refine (traceryref01_Class.calls k1 t136 t138 _ A6.out).mono ?_); rintro e w' ⟨rfl, ⟨nd, rfl⟩⟩))
                      go_roundg k1
                      case measure => have := HK1.out; omega
                      case rel => exact ⟨(wrap64 (x3_1 + t137)), (by first | rfl | (simp; done) | (simp [*]; done)), H', ⟨by have := HK1.out; omega⟩, by repeat (first | exact Drawn0.refl _ | apply Drawn0.step)⟩
                    · rw [if_neg c13] at H
                      have c13b0 : (t136 == 58) = false := beq_eq_false_iff_ne.mpr c13
                      have c13b1 : (t136 != 58) = true := bne_iff_ne.mpr c13
                      by_cases c14 : t136 = 124
                      · rw [if_pos c14] at H
                        have c14b0 : (t136 == 124) = true := beq_iff_eq.mpr c14
                        have c14b1 : (t136 != 124) = false := bne_eq_false_iff_eq.mpr c14
                        clear c14
                        have H' := Aside0.mk H
                        clear H
                        go_wp2_with (first | ((with_reducible refine gate_callee (f := 24) rfl ?_); refine goesL_ (some 13) rfl rfl Try.func24 (by kernel_rfl) rfl #[.string a0, .int .i64 x3_1] rfl (by (try simp only [List.map_toArray, List.map_cons, List.map_nil]); first | done | rfl | (simp only [List.length_drop, List.length_take]; rfl)) ?_; (with_reducible refine (traceryref01_Rune.calls k1 a0 x3_1 t136 t137 _ A3.out).mono ?_); rintro e w' ⟨rfl, ⟨nd, rfl⟩⟩; refine ⟨_, rfl, ?_⟩) | (go_at_call 18; (with_reducible refine (traceryref01_Class.calls k1 t136 t138 _ A6.out).mono ?_); rintro e w' ⟨rfl, ⟨nd, rfl⟩⟩))
                        go_roundg k1
                        case measure => have := HK1.out; omega
                        case rel => exact ⟨(wrap64 (x3_1 + t137)), (by first | rfl | (simp; done) | (simp [*]; done)), H', ⟨by have := HK1.out; omega⟩, by repeat (first | exact Drawn0.refl _ | apply Drawn0.step)⟩
                      · rw [if_neg c14] at H
                        have c14b0 : (t136 == 124) = false := beq_eq_false_iff_ne.mpr c14
                        have c14b1 : (t136 != 124) = true := bne_iff_ne.mpr c14
                        obtain rfl := Option.some.inj H
                        go_wp2_with (first | ((with_reducible refine gate_callee (f := 24) rfl ?_); refine goesL_ (some 13) rfl rfl Try.func24 (by kernel_rfl) rfl #[.string a0, .int .i64 x3_1] rfl (by (try simp only [List.map_toArray, List.map_cons, List.map_nil]); first | done | rfl | (simp only [List.length_drop, List.length_take]; rfl)) ?_; (with_reducible refine (traceryref01_Rune.calls k1 a0 x3_1 t136 t137 _ A3.out).mono ?_); rintro e w' ⟨rfl, ⟨nd, rfl⟩⟩; refine ⟨_, rfl, ?_⟩) | (go_at_call 18; (with_reducible refine (traceryref01_Class.calls k1 t136 t138 _ A6.out).mono ?_); rintro e w' ⟨rfl, ⟨nd, rfl⟩⟩))
                        go_ret
                        exact ⟨by first | rfl | (simp; done) | (simp [*]; done), by repeat (first | exact Drawn0.refl _ | apply Drawn0.step)⟩
                  · rw [if_neg c12] at H
                    have c12b0 : decide (47 < t136) = false := decide_eq_false c12
                    clear c12
                    have H' := Aside0.mk H
                    clear H
                    go_wp2_with (first | ((with_reducible refine gate_callee (f := 24) rfl ?_); refine goesL_ (some 13) rfl rfl Try.func24 (by kernel_rfl) rfl #[.string a0, .int .i64 x3_1] rfl (by (try simp only [List.map_toArray, List.map_cons, List.map_nil]); first | done | rfl | (simp only [List.length_drop, List.length_take]; rfl)) ?_; (with_reducible refine (traceryref01_Rune.calls k1 a0 x3_1 t136 t137 _ A3.out).mono ?_); rintro e w' ⟨rfl, ⟨nd, rfl⟩⟩; refine ⟨_, rfl, ?_⟩) | (go_at_call 18; (with_reducible refine (traceryref01_Class.calls k1 t136 t138 _ A6.out).mono ?_); rintro e w' ⟨rfl, ⟨nd, rfl⟩⟩))
                    go_roundg k1
                    case measure => have := HK1.out; omega
                    case rel => exact ⟨(wrap64 (x3_1 + t137)), (by first | rfl | (simp; done) | (simp [*]; done)), H', ⟨by have := HK1.out; omega⟩, by repeat (first | exact Drawn0.refl _ | apply Drawn0.step)⟩
            · rw [if_neg c7] at H
              have c7b0 : (t138 == 0) = false := beq_eq_false_iff_ne.mpr c7
              have c7b1 : (t138 != 0) = true := bne_iff_ne.mpr c7
              have H' := Aside0.mk H
              clear H
              go_wp2_with (first | ((with_reducible refine gate_callee (f := 24) rfl ?_); refine goesL_ (some 13) rfl rfl Try.func24 (by kernel_rfl) rfl #[.string a0, .int .i64 x3_1] rfl (by (try simp only [List.map_toArray, List.map_cons, List.map_nil]); first | done | rfl | (simp only [List.length_drop, List.length_take]; rfl)) ?_; (with_reducible refine (traceryref01_Rune.calls k1 a0 x3_1 t136 t137 _ A3.out).mono ?_); rintro e w' ⟨rfl, ⟨nd, rfl⟩⟩; refine ⟨_, rfl, ?_⟩) | (go_at_call 18; (with_reducible refine (traceryref01_Class.calls k1 t136 t138 _ A6.out).mono ?_); rintro e w' ⟨rfl, ⟨nd, rfl⟩⟩))
              go_roundg k1
              case measure => have := HK1.out; omega
              case rel => exact ⟨(wrap64 (x3_1 + t137)), (by first | rfl | (simp; done) | (simp [*]; done)), H', ⟨by have := HK1.out; omega⟩, by repeat (first | exact Drawn0.refl _ | apply Drawn0.step)⟩
      · rw [if_neg c2] at H
        have c2b0 : decide (x3_1 < (a0.size : Int)) = false := decide_eq_false c2
        clear c2
        obtain rfl := Option.some.inj H
        go_wp2
        go_ret
        exact ⟨by first | rfl | (simp; done) | (simp [*]; done), by repeat (first | exact Drawn0.refl _ | apply Drawn0.step)⟩

end Go.Proofs.Ytdhnoclkepopgaa.PA
