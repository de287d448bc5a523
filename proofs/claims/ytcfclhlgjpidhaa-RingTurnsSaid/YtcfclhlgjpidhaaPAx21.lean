-- Written by wip/tools/gprint.py of this repo (the kit's printer, some functions given).
import Derived.Test.YtcfclhlgjpidhaaPAx0
import Derived.Test.YtcfclhlgjpidhaaPAx3
import Derived.Test.YtcfclhlgjpidhaaPAx11
import Derived.Test.YtcfclhlgjpidhaaPAx13
import Derived.Test.YtcfclhlgjpidhaaPAx19
import Derived.Test.YtcfclhlgjpidhaaPAx20
namespace Go.Proofs.Ytcfclhlgjpidhaa.PA
open Go.RowKit Go.Proofs.YtcfclhlgjpidhaaW.PrintWords Go.Proofs.YtcfclhlgjpidhaaW.PrintLast Go.Proofs.YtcfclhlgjpidhaaW.PrintMore
attribute [local go_sem] max2_int min2_int max_two min_two max_three min_three max_four min_four   -- for this text's walks alone
set_option linter.unusedVariables false
set_option linter.unusedSimpArgs false
set_option linter.unnecessarySimpa false

/-! ### tracerylaw02_RingSteps: function 4 -/
mutual
def tracerylaw02_RingSteps.j0 : Nat → List Int → Int → Bool → Option (Bool)
  | 0, _, _, _ => none
  | k + 1, x0, x1, x29 => if x29 = true then ((tracerylaw02_awake.f k).bind fun t194 => (some t194)) else ((ring_After.f k x0 x1).bind fun bt195 => (if bt195.2 = true then ((ring_Before.f k x0 bt195.1).bind fun bt203 => ((ring_From.f k x0 x1).bind fun bt205 => (if bt203.2 = true then (if bt203.1 = x1 then (if bt205.2 = true then (if (bt205.1.length : Int) = (x0.length : Int) then (if 0 < (bt205.1.length : Int) then (tracerylaw02_RingSteps.j1 k x0 bt205.1 ((rd bt205.1 0) != x1)) else (none)) else (tracerylaw02_RingSteps.j1 k x0 bt205.1 true)) else (tracerylaw02_RingSteps.j1 k x0 bt205.1 true)) else (tracerylaw02_RingSteps.j1 k x0 bt205.1 true)) else (tracerylaw02_RingSteps.j1 k x0 bt205.1 true)))) else ((ring_Before.f k x0 x1).bind fun bt197 => ((ring_From.f k x0 x1).bind fun bt199 => (if bt197.2 = true then (some false) else (if bt199.2 = true then (some false) else (if (bt199.1.length : Int) = 0 then (some (bt195.1 == 0)) else (some false))))))))
def tracerylaw02_RingSteps.j1 : Nat → List Int → List Int → Bool → Option (Bool)
  | 0, _, _, _ => none
  | k + 1, x0, x13, x102 => if x102 = true then (some false) else (tracerylaw02_RingSteps.l0 k x0 x13 0)
def tracerylaw02_RingSteps.l0 : Nat → List Int → List Int → Int → Option (Bool)
  | 0, _, _, _ => none
  | k + 1, x0, x13, x15 => if (wrap64 (x15 + 1)) < (x13.length : Int) then (if 0 ≤ x15 then (if x15 < (x13.length : Int) then ((ring_After.f k x0 (rd x13 x15)).bind fun bt211 => (if bt211.2 = true then (if 0 ≤ (wrap64 (x15 + 1)) then (if bt211.1 = (rd x13 (wrap64 (x15 + 1))) then (tracerylaw02_RingSteps.l0 k x0 x13 (wrap64 (x15 + 1))) else (some false)) else (none)) else (some false))) else (none)) else (none)) else (some true)
end
def tracerylaw02_RingSteps.f (k : Nat) (l0 : List Int) (a1 : Int) : Option (Bool) := (tracerylaw02_awake.f k).bind fun t192 => (if t192 = true then (if (l0.length : Int) > 100 then (tracerylaw02_RingSteps.j0 k l0 a1 true) else ((ring_Right.f k l0).bind fun t193 => (tracerylaw02_RingSteps.j0 k l0 a1 (!t193)))) else (tracerylaw02_RingSteps.j0 k l0 a1 true))
theorem tracerylaw02_RingSteps.mono_l : ∀ k, (∀ y0 y1 y2, LeO (tracerylaw02_RingSteps.j0 k y0 y1 y2) (tracerylaw02_RingSteps.j0 (k + 1) y0 y1 y2)) ∧ (∀ y0 y1 y2, LeO (tracerylaw02_RingSteps.j1 k y0 y1 y2) (tracerylaw02_RingSteps.j1 (k + 1) y0 y1 y2)) ∧ (∀ y0 y1 y2, LeO (tracerylaw02_RingSteps.l0 k y0 y1 y2) (tracerylaw02_RingSteps.l0 (k + 1) y0 y1 y2))
  | 0 => ⟨fun _ _ _ r h => by simp [tracerylaw02_RingSteps.j0] at h, fun _ _ _ r h => by simp [tracerylaw02_RingSteps.j1] at h, fun _ _ _ r h => by simp [tracerylaw02_RingSteps.l0] at h⟩
  | k + 1 => by
    obtain ⟨ih0, ih1, ih2⟩ := tracerylaw02_RingSteps.mono_l k
    refine ⟨?_, ?_, ?_⟩
    · intro y0 y1 y2
      unfold tracerylaw02_RingSteps.j0
      repeat' first
      | (with_reducible exact ih0 _ _ _)
      | (with_reducible exact ih1 _ _ _)
      | (with_reducible exact ih2 _ _ _)
      | (with_reducible exact ring_After.mono _ _ _)
      | (with_reducible exact ring_Before.mono _ _ _)
      | (with_reducible exact ring_From.mono _ _ _)
      | (with_reducible exact ring_Right.mono _ _)
      | (with_reducible exact tracerylaw02_awake.mono _)
      | (with_reducible exact LeO.refl _)
      | (with_reducible exact LeO.none _)
      | (with_reducible refine LeO.ite ?_ ?_)
      | (with_reducible refine LeO.bind ?_ (fun _ => ?_))
      | exact ih0 _ _ _
      | exact ih1 _ _ _
      | exact ih2 _ _ _
      | exact ring_After.mono _ _ _
      | exact ring_Before.mono _ _ _
      | exact ring_From.mono _ _ _
      | exact ring_Right.mono _ _
      | exact tracerylaw02_awake.mono _
      | exact LeO.none _
      | refine LeO.ite ?_ ?_
      | refine LeO.bind ?_ (fun _ => ?_)
    · intro y0 y1 y2
      unfold tracerylaw02_RingSteps.j1
      repeat' first
      | (with_reducible exact ih0 _ _ _)
      | (with_reducible exact ih1 _ _ _)
      | (with_reducible exact ih2 _ _ _)
      | (with_reducible exact ring_After.mono _ _ _)
      | (with_reducible exact ring_Before.mono _ _ _)
      | (with_reducible exact ring_From.mono _ _ _)
      | (with_reducible exact ring_Right.mono _ _)
      | (with_reducible exact tracerylaw02_awake.mono _)
      | (with_reducible exact LeO.refl _)
      | (with_reducible exact LeO.none _)
      | (with_reducible refine LeO.ite ?_ ?_)
      | (with_reducible refine LeO.bind ?_ (fun _ => ?_))
      | exact ih0 _ _ _
      | exact ih1 _ _ _
      | exact ih2 _ _ _
      | exact ring_After.mono _ _ _
      | exact ring_Before.mono _ _ _
      | exact ring_From.mono _ _ _
      | exact ring_Right.mono _ _
      | exact tracerylaw02_awake.mono _
      | exact LeO.none _
      | refine LeO.ite ?_ ?_
      | refine LeO.bind ?_ (fun _ => ?_)
    · intro y0 y1 y2
      unfold tracerylaw02_RingSteps.l0
      repeat' first
      | (with_reducible exact ih0 _ _ _)
      | (with_reducible exact ih1 _ _ _)
      | (with_reducible exact ih2 _ _ _)
      | (with_reducible exact ring_After.mono _ _ _)
      | (with_reducible exact ring_Before.mono _ _ _)
      | (with_reducible exact ring_From.mono _ _ _)
      | (with_reducible exact ring_Right.mono _ _)
      | (with_reducible exact tracerylaw02_awake.mono _)
      | (with_reducible exact LeO.refl _)
      | (with_reducible exact LeO.none _)
      | (with_reducible refine LeO.ite ?_ ?_)
      | (with_reducible refine LeO.bind ?_ (fun _ => ?_))
      | exact ih0 _ _ _
      | exact ih1 _ _ _
      | exact ih2 _ _ _
      | exact ring_After.mono _ _ _
      | exact ring_Before.mono _ _ _
      | exact ring_From.mono _ _ _
      | exact ring_Right.mono _ _
      | exact tracerylaw02_awake.mono _
      | exact LeO.none _
      | refine LeO.ite ?_ ?_
      | refine LeO.bind ?_ (fun _ => ?_)
theorem tracerylaw02_RingSteps.mono : ∀ a0 a1 k, LeO (tracerylaw02_RingSteps.f k a0 a1) (tracerylaw02_RingSteps.f (k + 1) a0 a1) := by
  intro a0 a1 k
  obtain ⟨ih0, ih1, ih2⟩ := tracerylaw02_RingSteps.mono_l k
  unfold tracerylaw02_RingSteps.f
  repeat' first
      | (with_reducible exact ih0 _ _ _)
      | (with_reducible exact ih1 _ _ _)
      | (with_reducible exact ih2 _ _ _)
      | (with_reducible exact ring_After.mono _ _ _)
      | (with_reducible exact ring_Before.mono _ _ _)
      | (with_reducible exact ring_From.mono _ _ _)
      | (with_reducible exact ring_Right.mono _ _)
      | (with_reducible exact tracerylaw02_awake.mono _)
      | (with_reducible exact LeO.refl _)
      | (with_reducible exact LeO.none _)
      | (with_reducible refine LeO.ite ?_ ?_)
      | (with_reducible refine LeO.bind ?_ (fun _ => ?_))
      | exact ih0 _ _ _
      | exact ih1 _ _ _
      | exact ih2 _ _ _
      | exact ring_After.mono _ _ _
      | exact ring_Before.mono _ _ _
      | exact ring_From.mono _ _ _
      | exact ring_Right.mono _ _
      | exact tracerylaw02_awake.mono _
      | exact LeO.none _
      | refine LeO.ite ?_ ?_
      | refine LeO.bind ?_ (fun _ => ?_)
set_option maxHeartbeats 8000000 in
set_option maxRecDepth 100000 in
theorem tracerylaw02_RingSteps.calls (k : Nat) (A0 : Option Addr) (c0 : Nat) (l0 : List Int) (a1 : Int) (r : Bool) (w : World) (hr0 : Kd.C (Kd.int .i64) w A0 l0.length l0) (hc0 : l0.length ≤ c0) (h : tracerylaw02_RingSteps.f k l0 a1 = some r) :
    Calls Try.prog 4 #[.slice A0 l0.length c0, .int .i64 a1] w fun e w' => e = .returned (.bool r) ∧ Below w.heap.size w w' := by
  have HR0 := Aside0.mk hr0
  have HC0 := Aside0.mk hc0
  clear hr0 hc0
  have HB := Aside0.mk (Below.refl w.heap.size w)
  have H : ((tracerylaw02_awake.f k).bind fun t192 => (if t192 = true then (if (l0.length : Int) > 100 then (tracerylaw02_RingSteps.j0 k l0 a1 true) else ((ring_Right.f k l0).bind fun t193 => (tracerylaw02_RingSteps.j0 k l0 a1 (!t193)))) else (tracerylaw02_RingSteps.j0 k l0 a1 true))) = some r := h
  clear h
  have HC3 := Aside0.mk H
  clear H
  go_enter Try.func4, Try.ntmps4
  go_upto_region 1 with (fail)
  go_cut [29] (fun v29 wc => ∃ (kq : Nat) (x29_2 : Bool), v29 = .bool x29_2 ∧ Aside0 (tracerylaw02_RingSteps.j0 kq l0 a1 x29_2 = some r) ∧ Aside0 (kq ≤ k) ∧ Aside0 (Below w.heap.size w wc))
  case first =>
    have H := HC3.out
    clear HC3
    replace H := Option.bind_eq_some_iff.mp H
    obtain ⟨t192, A40, H⟩ := H
    replace H : (if t192 = true then (if (l0.length : Int) > 100 then (tracerylaw02_RingSteps.j0 k l0 a1 true) else ((ring_Right.f k l0).bind fun t193 => (tracerylaw02_RingSteps.j0 k l0 a1 (!t193)))) else (tracerylaw02_RingSteps.j0 k l0 a1 true)) = some r := H
    have A4 := Aside0.mk A40
    clear A40
    by_cases c5 : t192 = true
    · subst c5
      have H1 : (if (l0.length : Int) > 100 then (tracerylaw02_RingSteps.j0 k l0 a1 true) else ((ring_Right.f k l0).bind fun t193 => (tracerylaw02_RingSteps.j0 k l0 a1 (!t193)))) = some r := by rw [if_pos rfl] at H; exact H
      clear H
      have H := H1
      clear H1
      by_cases c6 : (l0.length : Int) > 100
      · rw [if_pos c6] at H
        have c6b0 : decide (100 < (l0.length : Int)) = true := decide_eq_true c6
        have c6b1 : decide (100 < l0.length) = true := decide_eq_true (by omega)
        clear c6
        (first | rw [c6b0] | (simp only [i64_w, i32_w]; rw [c6b0]) | skip)
        have H' := Aside0.mk H
        clear H
        go_wp2_with (first | ((with_reducible refine gate_callee (f := 8) rfl ?_); refine goesL_ (some 18) rfl rfl Try.func8 (by kernel_rfl) rfl #[] rfl (by (try simp only [List.map_toArray, List.map_cons, List.map_nil]); first | done | rfl | (simp only [List.length_drop, List.length_take]; rfl)) ?_; (with_reducible refine (tracerylaw02_awake.calls k  true _ A4.out).mono ?_); rintro e w7 ⟨rfl, hb⟩; refine ⟨_, rfl, ?_⟩; have n0_ := Aside0.mk (below_step (by repeat (first | (with_reducible first | exact HB.out | apply below_alloc | apply pw_below_drewN | apply below_drew1) | exact HB.out)) hb); clear HB; have HB := n0_; clear n0_; (try clear hb); (try clear hb2); (try clear hk); (try clear hi)))
        go_meet
        case rel => exact ⟨_, (true), (by first | rfl | (simp; done) | (simp [*]; done)), H', ⟨by first | omega | exact Nat.le_refl _⟩, ⟨by repeat (first | (with_reducible first | exact HB.out | apply below_alloc | apply pw_below_drewN | apply below_drew1) | exact HB.out)⟩⟩
      · rw [if_neg c6] at H
        have c6b0 : decide (100 < (l0.length : Int)) = false := decide_eq_false c6
        have c6b1 : decide (100 < l0.length) = false := decide_eq_false (by omega)
        clear c6
        (first | rw [c6b0] | (simp only [i64_w, i32_w]; rw [c6b0]) | skip)
        replace H := Option.bind_eq_some_iff.mp H
        obtain ⟨t193, A80, H⟩ := H
        replace H : (tracerylaw02_RingSteps.j0 k l0 a1 (!t193)) = some r := H
        have A8 := Aside0.mk A80
        clear A80
        have H' := Aside0.mk H
        clear H
        go_wp2_with (first | ((with_reducible refine gate_callee (f := 8) rfl ?_); refine goesL_ (some 18) rfl rfl Try.func8 (by kernel_rfl) rfl #[] rfl (by (try simp only [List.map_toArray, List.map_cons, List.map_nil]); first | done | rfl | (simp only [List.length_drop, List.length_take]; rfl)) ?_; (with_reducible refine (tracerylaw02_awake.calls k  true _ A4.out).mono ?_); rintro e w9 ⟨rfl, hb⟩; refine ⟨_, rfl, ?_⟩; have n0_ := Aside0.mk (below_step (by repeat (first | (with_reducible first | exact HB.out | apply below_alloc | apply pw_below_drewN | apply below_drew1) | exact HB.out)) hb); clear HB; have HB := n0_; clear n0_; (try clear hb); (try clear hb2); (try clear hk); (try clear hi)) | (go_at_call 12; (with_reducible refine (ring_Right.calls k _ _ l0 t193 _ ?side1 ?side2 A8.out).mono ?_); (case side1 => repeat (first | exact (Kd.C_below HR0.out HB.out) | (with_reducible refine Kd.C_alloc ?_ _) | (with_reducible refine Kd.C_drewN ?_ _) | (with_reducible refine Kd.C_drew ?_))); (case side2 => exact HC0.out); rintro e w' ⟨rfl, ⟨nd, rfl⟩⟩))
        go_meet
        case rel => exact ⟨_, (!t193), (by first | rfl | (simp; done) | (simp [*]; done)), H', ⟨by first | omega | exact Nat.le_refl _⟩, ⟨by repeat (first | (with_reducible first | exact HB.out | apply below_alloc | apply pw_below_drewN | apply below_drew1) | exact HB.out)⟩⟩
    · replace c5 := Bool.eq_false_iff.mpr c5
      subst c5
      have H1 : (tracerylaw02_RingSteps.j0 k l0 a1 true) = some r := by rw [if_neg (show ¬ (false = true) by decide)] at H; exact H
      clear H
      have H := H1
      clear H1
      have H' := Aside0.mk H
      clear H
      go_wp2_with (first | ((with_reducible refine gate_callee (f := 8) rfl ?_); refine goesL_ (some 18) rfl rfl Try.func8 (by kernel_rfl) rfl #[] rfl (by (try simp only [List.map_toArray, List.map_cons, List.map_nil]); first | done | rfl | (simp only [List.length_drop, List.length_take]; rfl)) ?_; (with_reducible refine (tracerylaw02_awake.calls k  false _ A4.out).mono ?_); rintro e w10 ⟨rfl, hb⟩; refine ⟨_, rfl, ?_⟩; have n0_ := Aside0.mk (below_step (by repeat (first | (with_reducible first | exact HB.out | apply below_alloc | apply pw_below_drewN | apply below_drew1) | exact HB.out)) hb); clear HB; have HB := n0_; clear n0_; (try clear hb); (try clear hb2); (try clear hk); (try clear hi)))
      go_meet
      case rel => exact ⟨_, (true), (by first | rfl | (simp; done) | (simp [*]; done)), H', ⟨by first | omega | exact Nat.le_refl _⟩, ⟨by repeat (first | (with_reducible first | exact HB.out | apply below_alloc | apply pw_below_drewN | apply below_drew1) | exact HB.out)⟩⟩
  case rest =>
    clear HC3
    try clear p2
    try clear c4
    try clear c5
    try clear c6
    try clear c6b0
    try clear c6b1
    try clear c8
    obtain ⟨kq, x29_2, rfl, HA, HJ2, HB⟩ := hcut
    cases kq with
    | zero => exact absurd HA.out (by simp [tracerylaw02_RingSteps.j0])
    | succ kj2 =>
      have H := HA.out
      clear HA
      simp only [tracerylaw02_RingSteps.j0] at H
      by_cases c11 : x29_2 = true
      · subst c11
        have H1 : ((tracerylaw02_awake.f kj2).bind fun t194 => (some t194)) = some r := by rw [if_pos rfl] at H; exact H
        clear H
        have H := H1
        clear H1
        replace H := Option.bind_eq_some_iff.mp H
        obtain ⟨t194, A120, H⟩ := H
        replace H : (some t194) = some r := H
        have A12 := Aside0.mk A120
        clear A120
        obtain rfl := Option.some.inj H
        go_wp2_with (first | ((with_reducible refine gate_callee (f := 8) rfl ?_); refine goesL_ (some 30) rfl rfl Try.func8 (by kernel_rfl) rfl #[] rfl (by (try simp only [List.map_toArray, List.map_cons, List.map_nil]); first | done | rfl | (simp only [List.length_drop, List.length_take]; rfl)) ?_; (with_reducible refine (tracerylaw02_awake.calls kj2  t194 _ A12.out).mono ?_); rintro e w13 ⟨rfl, hb⟩; refine ⟨_, rfl, ?_⟩; have n0_ := Aside0.mk (below_step (by repeat (first | (with_reducible first | exact HB.out | apply below_alloc | apply pw_below_drewN | apply below_drew1) | exact HB.out)) hb); clear HB; have HB := n0_; clear n0_; (try clear hb); (try clear hb2); (try clear hk); (try clear hi)))
        go_ret
        exact ⟨by first | rfl | trivial | (simp [errW_none, errW_some] <;> rfl) | (simp [*, errW_none, errW_some] <;> rfl), by repeat (first | (with_reducible first | exact HB.out | apply below_alloc | apply pw_below_drewN | apply below_drew1) | exact HB.out)⟩
      · replace c11 := Bool.eq_false_iff.mpr c11
        subst c11
        have H1 : ((ring_After.f kj2 l0 a1).bind fun bt195 => (if bt195.2 = true then ((ring_Before.f kj2 l0 bt195.1).bind fun bt203 => ((ring_From.f kj2 l0 a1).bind fun bt205 => (if bt203.2 = true then (if bt203.1 = a1 then (if bt205.2 = true then (if (bt205.1.length : Int) = (l0.length : Int) then (if 0 < (bt205.1.length : Int) then (tracerylaw02_RingSteps.j1 kj2 l0 bt205.1 ((rd bt205.1 0) != a1)) else (none)) else (tracerylaw02_RingSteps.j1 kj2 l0 bt205.1 true)) else (tracerylaw02_RingSteps.j1 kj2 l0 bt205.1 true)) else (tracerylaw02_RingSteps.j1 kj2 l0 bt205.1 true)) else (tracerylaw02_RingSteps.j1 kj2 l0 bt205.1 true)))) else ((ring_Before.f kj2 l0 a1).bind fun bt197 => ((ring_From.f kj2 l0 a1).bind fun bt199 => (if bt197.2 = true then (some false) else (if bt199.2 = true then (some false) else (if (bt199.1.length : Int) = 0 then (some (bt195.1 == 0)) else (some false)))))))) = some r := by rw [if_neg (show ¬ (false = true) by decide)] at H; exact H
        clear H
        have H := H1
        clear H1
        replace H := Option.bind_eq_some_iff.mp H
        obtain ⟨⟨t195, t196⟩, A140, H⟩ := H
        replace H : (if t196 = true then ((ring_Before.f kj2 l0 t195).bind fun bt203 => ((ring_From.f kj2 l0 a1).bind fun bt205 => (if bt203.2 = true then (if bt203.1 = a1 then (if bt205.2 = true then (if (bt205.1.length : Int) = (l0.length : Int) then (if 0 < (bt205.1.length : Int) then (tracerylaw02_RingSteps.j1 kj2 l0 bt205.1 ((rd bt205.1 0) != a1)) else (none)) else (tracerylaw02_RingSteps.j1 kj2 l0 bt205.1 true)) else (tracerylaw02_RingSteps.j1 kj2 l0 bt205.1 true)) else (tracerylaw02_RingSteps.j1 kj2 l0 bt205.1 true)) else (tracerylaw02_RingSteps.j1 kj2 l0 bt205.1 true)))) else ((ring_Before.f kj2 l0 a1).bind fun bt197 => ((ring_From.f kj2 l0 a1).bind fun bt199 => (if bt197.2 = true then (some false) else (if bt199.2 = true then (some false) else (if (bt199.1.length : Int) = 0 then (some (t195 == 0)) else (some false))))))) = some r := H
        have A14 := Aside0.mk A140
        clear A140
        by_cases c15 : t196 = true
        · subst c15
          have H1 : ((ring_Before.f kj2 l0 t195).bind fun bt203 => ((ring_From.f kj2 l0 a1).bind fun bt205 => (if bt203.2 = true then (if bt203.1 = a1 then (if bt205.2 = true then (if (bt205.1.length : Int) = (l0.length : Int) then (if 0 < (bt205.1.length : Int) then (tracerylaw02_RingSteps.j1 kj2 l0 bt205.1 ((rd bt205.1 0) != a1)) else (none)) else (tracerylaw02_RingSteps.j1 kj2 l0 bt205.1 true)) else (tracerylaw02_RingSteps.j1 kj2 l0 bt205.1 true)) else (tracerylaw02_RingSteps.j1 kj2 l0 bt205.1 true)) else (tracerylaw02_RingSteps.j1 kj2 l0 bt205.1 true)))) = some r := by rw [if_pos rfl] at H; exact H
          clear H
          have H := H1
          clear H1
          replace H := Option.bind_eq_some_iff.mp H
          obtain ⟨⟨t203, t204⟩, A160, H⟩ := H
          replace H : ((ring_From.f kj2 l0 a1).bind fun bt205 => (if t204 = true then (if t203 = a1 then (if bt205.2 = true then (if (bt205.1.length : Int) = (l0.length : Int) then (if 0 < (bt205.1.length : Int) then (tracerylaw02_RingSteps.j1 kj2 l0 bt205.1 ((rd bt205.1 0) != a1)) else (none)) else (tracerylaw02_RingSteps.j1 kj2 l0 bt205.1 true)) else (tracerylaw02_RingSteps.j1 kj2 l0 bt205.1 true)) else (tracerylaw02_RingSteps.j1 kj2 l0 bt205.1 true)) else (tracerylaw02_RingSteps.j1 kj2 l0 bt205.1 true))) = some r := H
          have A16 := Aside0.mk A160
          clear A160
          replace H := Option.bind_eq_some_iff.mp H
          obtain ⟨⟨t205, t206⟩, A170, H⟩ := H
          replace H : (if t204 = true then (if t203 = a1 then (if t206 = true then (if (t205.length : Int) = (l0.length : Int) then (if 0 < (t205.length : Int) then (tracerylaw02_RingSteps.j1 kj2 l0 t205 ((rd t205 0) != a1)) else (none)) else (tracerylaw02_RingSteps.j1 kj2 l0 t205 true)) else (tracerylaw02_RingSteps.j1 kj2 l0 t205 true)) else (tracerylaw02_RingSteps.j1 kj2 l0 t205 true)) else (tracerylaw02_RingSteps.j1 kj2 l0 t205 true)) = some r := H
          have A17 := Aside0.mk A170
          clear A170
          have HC18 := Aside0.mk H
          clear H
          go_upto_region 10 with (first | ((with_reducible refine gate_callee (f := 13) rfl ?_); refine goesL_ (some 34) rfl rfl Try.func13 (by kernel_rfl) rfl #[.slice A0 l0.length c0, .int .i64 a1] rfl (by (try simp only [List.map_toArray, List.map_cons, List.map_nil]); first | done | rfl | (simp only [List.length_drop, List.length_take]; rfl)) ?_; (with_reducible refine (ring_After.calls kj2 _ _ l0 a1 t195 true _ ?side1 ?side2 A14.out).mono ?_); (case side1 => repeat (first | exact (Kd.C_below HR0.out HB.out) | (with_reducible refine Kd.C_alloc ?_ _) | (with_reducible refine Kd.C_drewN ?_ _) | (with_reducible refine Kd.C_drew ?_))); (case side2 => exact HC0.out); rintro e w' ⟨rfl, ⟨nd, rfl⟩⟩; refine ⟨_, rfl, ?_⟩) | ((with_reducible refine gate_callee (f := 14) rfl ?_); refine goesL_ (some 69) rfl rfl Try.func14 (by kernel_rfl) rfl #[.slice A0 l0.length c0, .int .i64 t195] rfl (by (try simp only [List.map_toArray, List.map_cons, List.map_nil]); first | done | rfl | (simp only [List.length_drop, List.length_take]; rfl)) ?_; (with_reducible refine (ring_Before.calls kj2 _ _ l0 t195 t203 t204 _ ?side1 ?side2 A16.out).mono ?_); (case side1 => repeat (first | exact (Kd.C_below HR0.out (by repeat (first | (with_reducible first | exact HB.out | apply below_alloc | apply pw_below_drewN | apply below_drew1) | exact HB.out))) | (with_reducible refine Kd.C_alloc ?_ _) | (with_reducible refine Kd.C_drewN ?_ _) | (with_reducible refine Kd.C_drew ?_))); (case side2 => exact HC0.out); rintro e w' ⟨rfl, ⟨nd, rfl⟩⟩; refine ⟨_, rfl, ?_⟩) | ((with_reducible refine gate_callee (f := 15) rfl ?_); refine goesL_ (some 75) rfl rfl Try.func15 (by kernel_rfl) rfl #[.slice A0 l0.length c0, .int .i64 a1] rfl (by (try simp only [List.map_toArray, List.map_cons, List.map_nil]); first | done | rfl | (simp only [List.length_drop, List.length_take]; rfl)) ?_; (with_reducible refine (ring_From.calls kj2 _ _ l0 a1 t205 t206 _ ?side1 ?side2 A17.out).mono ?_); (case side1 => repeat (first | exact (Kd.C_below HR0.out (by repeat (first | (with_reducible first | exact HB.out | apply below_alloc | apply pw_below_drewN | apply below_drew1) | exact HB.out))) | (with_reducible refine Kd.C_alloc ?_ _) | (with_reducible refine Kd.C_drewN ?_ _) | (with_reducible refine Kd.C_drew ?_))); (case side2 => exact HC0.out); rintro e w19 ⟨v207, rfl, ho0, hb⟩; refine ⟨_, rfl, ?_⟩; have n0_ := Aside0.mk (Kd.R_lower ho0 (below_size (by repeat (first | (with_reducible first | exact HB.out | apply below_alloc | apply pw_below_drewN | apply below_drew1) | exact HB.out)))); have n1_ := Aside0.mk (below_step (by repeat (first | (with_reducible first | exact HB.out | apply below_alloc | apply pw_below_drewN | apply below_drew1) | exact HB.out)) hb); clear HB; have HO208 := n0_; have HB := n1_; clear n0_ n1_; (try clear hb); (try clear hb2); (try clear hk); (try clear hi); (try clear ho0)))
          (try simp only [Act.put, List.setIfInBounds_toArray, List.set_cons_zero, List.set_cons_succ])
          go_cut [102] (fun v102 wc => ∃ (kq : Nat) (x102_17 : Bool), v102 = .bool x102_17 ∧ Aside0 (tracerylaw02_RingSteps.j1 kq l0 t205 x102_17 = some r) ∧ Aside0 (kq ≤ kj2) ∧ Aside0 (Kd.R (Kd.int .i64) 3 wc w.heap.size (fun _ => True) v207 t205) ∧ Aside0 (Below w.heap.size w wc))
          case first =>
            have H := HC18.out
            clear HC18
            by_cases c20 : t204 = true
            · subst c20
              have H1 : (if t203 = a1 then (if t206 = true then (if (t205.length : Int) = (l0.length : Int) then (if 0 < (t205.length : Int) then (tracerylaw02_RingSteps.j1 kj2 l0 t205 ((rd t205 0) != a1)) else (none)) else (tracerylaw02_RingSteps.j1 kj2 l0 t205 true)) else (tracerylaw02_RingSteps.j1 kj2 l0 t205 true)) else (tracerylaw02_RingSteps.j1 kj2 l0 t205 true)) = some r := by rw [if_pos rfl] at H; exact H
              clear H
              have H := H1
              clear H1
              by_cases c21 : t203 = a1
              · rw [if_pos c21] at H
                have c21b0 : (t203 == a1) = true := beq_iff_eq.mpr c21
                have c21b1 : (t203 != a1) = false := bne_eq_false_iff_eq.mpr c21
                clear c21
                (first | rw [c21b0] | (simp only [i64_w, i32_w]; rw [c21b0]) | skip)
                by_cases c22 : t206 = true
                · subst c22
                  have H1 : (if (t205.length : Int) = (l0.length : Int) then (if 0 < (t205.length : Int) then (tracerylaw02_RingSteps.j1 kj2 l0 t205 ((rd t205 0) != a1)) else (none)) else (tracerylaw02_RingSteps.j1 kj2 l0 t205 true)) = some r := by rw [if_pos rfl] at H; exact H
                  clear H
                  have H := H1
                  clear H1
                  by_cases c23 : (t205.length : Int) = (l0.length : Int)
                  · rw [if_pos c23] at H
                    have c23b0 : ((t205.length : Int) == (l0.length : Int)) = true := beq_iff_eq.mpr c23
                    have c23b1 : ((t205.length : Int) != (l0.length : Int)) = false := bne_eq_false_iff_eq.mpr c23
                    have c23b2 : (t205.length == l0.length) = true := by first | simpa using c23 | (simp at c23 ⊢; omega)
                    clear c23
                    by_cases c24 : 0 < (t205.length : Int)
                    · rw [if_pos c24] at H
                      have c24b0 : decide (0 < (t205.length : Int)) = true := decide_eq_true c24
                      have c24b1 : decide (0 < t205.length) = true := decide_eq_true (by omega)
                      clear c24
                      have H' := Aside0.mk H
                      clear H
                      obtain ⟨Ao25, co25, eo25⟩ := Kd.R_slice HO208.out
                      subst eo25
                      have p209 : 0 ≤ (0 : Int) := (by omega)
                      have q209 : 0 < (t205.length : Int) := of_decide_eq_true (by first | (with_reducible assumption) | assumption)
                      obtain ⟨ad209, e209, hx209_0⟩ := Kd.at_int (Kd.R_reads' HO208.out).2.2 0 p209 q209
                      cases e209
                      have qi209 : (0 < t205.length) = True := eq_true (by omega)
                      (try rw [show ((0 : Int)).toNat = 0 from rfl] at hx209_0)
                      (try rw [Addr.add_zero'] at hx209_0)
                      replace p209 := eq_true p209
                      replace q209 := eq_true q209
                      go_wp2
                      go_meet
                      case rel => exact ⟨_, (((rd t205 0) != a1)), (by first | rfl | (simp; done) | (simp [*]; done)), H', ⟨by have := HJ2.out; first | omega | exact Nat.le_refl _⟩, ⟨by (with_reducible repeat (first | apply Kd.R_alloc | apply Kd.R_drewN | apply Kd.R_drew)); exact HO208.out⟩, ⟨by repeat (first | (with_reducible first | exact HB.out | apply below_alloc | apply pw_below_drewN | apply below_drew1) | exact HB.out)⟩⟩
                    · rw [if_neg c24] at H
                      exact absurd H (by simp)
                  · rw [if_neg c23] at H
                    have c23b0 : ((t205.length : Int) == (l0.length : Int)) = false := beq_eq_false_iff_ne.mpr c23
                    have c23b1 : ((t205.length : Int) != (l0.length : Int)) = true := bne_iff_ne.mpr c23
                    have c23b2 : (t205.length == l0.length) = false := by first | simpa using c23 | (simp at c23 ⊢; omega)
                    have H' := Aside0.mk H
                    clear H
                    obtain ⟨Ao26, co26, eo26⟩ := Kd.R_slice HO208.out
                    subst eo26
                    go_wp2
                    go_meet
                    case rel => exact ⟨_, (true), (by first | rfl | (simp; done) | (simp [*]; done)), H', ⟨by have := HJ2.out; first | omega | exact Nat.le_refl _⟩, ⟨by (with_reducible repeat (first | apply Kd.R_alloc | apply Kd.R_drewN | apply Kd.R_drew)); exact HO208.out⟩, ⟨by repeat (first | (with_reducible first | exact HB.out | apply below_alloc | apply pw_below_drewN | apply below_drew1) | exact HB.out)⟩⟩
                · replace c22 := Bool.eq_false_iff.mpr c22
                  subst c22
                  have H1 : (tracerylaw02_RingSteps.j1 kj2 l0 t205 true) = some r := by rw [if_neg (show ¬ (false = true) by decide)] at H; exact H
                  clear H
                  have H := H1
                  clear H1
                  have H' := Aside0.mk H
                  clear H
                  go_wp2
                  go_meet
                  case rel => exact ⟨_, (true), (by first | rfl | (simp; done) | (simp [*]; done)), H', ⟨by have := HJ2.out; first | omega | exact Nat.le_refl _⟩, ⟨by (with_reducible repeat (first | apply Kd.R_alloc | apply Kd.R_drewN | apply Kd.R_drew)); exact HO208.out⟩, ⟨by repeat (first | (with_reducible first | exact HB.out | apply below_alloc | apply pw_below_drewN | apply below_drew1) | exact HB.out)⟩⟩
              · rw [if_neg c21] at H
                have c21b0 : (t203 == a1) = false := beq_eq_false_iff_ne.mpr c21
                have c21b1 : (t203 != a1) = true := bne_iff_ne.mpr c21
                (first | rw [c21b0] | (simp only [i64_w, i32_w]; rw [c21b0]) | skip)
                have H' := Aside0.mk H
                clear H
                go_wp2
                go_meet
                case rel => exact ⟨_, (true), (by first | rfl | (simp; done) | (simp [*]; done)), H', ⟨by have := HJ2.out; first | omega | exact Nat.le_refl _⟩, ⟨by (with_reducible repeat (first | apply Kd.R_alloc | apply Kd.R_drewN | apply Kd.R_drew)); exact HO208.out⟩, ⟨by repeat (first | (with_reducible first | exact HB.out | apply below_alloc | apply pw_below_drewN | apply below_drew1) | exact HB.out)⟩⟩
            · replace c20 := Bool.eq_false_iff.mpr c20
              subst c20
              have H1 : (tracerylaw02_RingSteps.j1 kj2 l0 t205 true) = some r := by rw [if_neg (show ¬ (false = true) by decide)] at H; exact H
              clear H
              have H := H1
              clear H1
              have H' := Aside0.mk H
              clear H
              go_wp2
              go_meet
              case rel => exact ⟨_, (true), (by first | rfl | (simp; done) | (simp [*]; done)), H', ⟨by have := HJ2.out; first | omega | exact Nat.le_refl _⟩, ⟨by (with_reducible repeat (first | apply Kd.R_alloc | apply Kd.R_drewN | apply Kd.R_drew)); exact HO208.out⟩, ⟨by repeat (first | (with_reducible first | exact HB.out | apply below_alloc | apply pw_below_drewN | apply below_drew1) | exact HB.out)⟩⟩
          case rest =>
            clear HC18
            try clear c1
            try clear c2
            try clear p2
            try clear q2
            try clear hx2
            try clear qi2
            try clear c4
            try clear c5
            try clear c6
            try clear c6b0
            try clear c6b1
            try clear c8
            try clear c11
            try clear c13
            try clear c14
            try clear c15
            try clear c20
            try clear p20
            try clear q20
            try clear hx20
            try clear qi20
            try clear c21
            try clear c21b0
            try clear c21b1
            try clear c22
            try clear c23
            try clear c23b0
            try clear c23b1
            try clear c23b2
            try clear c24
            try clear c24b0
            try clear c24b1
            try clear hx209_0
            try clear p2
            try clear p209
            try clear q209
            obtain ⟨kq, x102_17, rfl, HA, HJ17, HO_13, HB⟩ := hcut
            cases kq with
            | zero => exact absurd HA.out (by simp [tracerylaw02_RingSteps.j1])
            | succ kj17 =>
              have H := HA.out
              clear HA
              simp only [tracerylaw02_RingSteps.j1] at H
              by_cases c27 : x102_17 = true
              · subst c27
                have H1 : (some false) = some r := by rw [if_pos rfl] at H; exact H
                clear H
                have H := H1
                clear H1
                obtain rfl := Option.some.inj H
                go_wp2
                go_ret
                exact ⟨by first | rfl | trivial | (simp [errW_none, errW_some] <;> rfl) | (simp [*, errW_none, errW_some] <;> rfl), by repeat (first | (with_reducible first | exact HB.out | apply below_alloc | apply pw_below_drewN | apply below_drew1) | exact HB.out)⟩
              · replace c27 := Bool.eq_false_iff.mpr c27
                subst c27
                have H1 : (tracerylaw02_RingSteps.l0 kj17 l0 t205 0) = some r := by rw [if_neg (show ¬ (false = true) by decide)] at H; exact H
                clear H
                have H := H1
                clear H1
                have H' := Aside0.mk H
                clear H
                go_wp2
                go_loopg [15] kj17 (fun kq v15 w' => ∃ (x15_3 : Int), v15 = .int .i64 x15_3 ∧ Aside0 (tracerylaw02_RingSteps.l0 kq l0 t205 x15_3 = some r) ∧ Aside0 (kq ≤ kj17) ∧ Aside0 (Kd.R (Kd.int .i64) 3 w' w.heap.size (fun _ => True) v207 t205) ∧ Aside0 (Below w.heap.size w w'))
                case atStart => exact ⟨(0), (by first | rfl | (simp; done) | (simp [*]; done)), H', ⟨Nat.le_refl _⟩, ⟨by (with_reducible repeat (first | apply Kd.R_alloc | apply Kd.R_drewN | apply Kd.R_drew)); exact HO_13.out⟩, ⟨by repeat (first | (with_reducible first | exact HB.out | apply below_alloc | apply pw_below_drewN | apply below_drew1) | exact HB.out)⟩⟩
                case round =>
                  clear H'
                  try clear c1
                  try clear c2
                  try clear p2
                  try clear q2
                  try clear hx2
                  try clear qi2
                  try clear c4
                  try clear c5
                  try clear c6
                  try clear c6b0
                  try clear c6b1
                  try clear c8
                  try clear c11
                  try clear c13
                  try clear c14
                  try clear c15
                  try clear c20
                  try clear p20
                  try clear q20
                  try clear hx20
                  try clear qi20
                  try clear c21
                  try clear c21b0
                  try clear c21b1
                  try clear c22
                  try clear c23
                  try clear c23b0
                  try clear c23b1
                  try clear c23b2
                  try clear c24
                  try clear c24b0
                  try clear c24b1
                  try clear c27
                  try clear hx209_0
                  try clear p2
                  try clear p20
                  try clear p209
                  try clear q2
                  try clear q20
                  try clear q209
                  obtain ⟨x15_3, rfl, HA, HK3, HO_13, HB⟩ := hrel
                  cases gk with
                  | zero => exact absurd HA.out (by simp [tracerylaw02_RingSteps.l0])
                  | succ k3 =>
                    have H := HA.out
                    clear HA
                    simp only [tracerylaw02_RingSteps.l0] at H
                    by_cases c28 : (wrap64 (x15_3 + 1)) < (t205.length : Int)
                    · rw [if_pos c28] at H
                      have c28b0 : decide ((wrap64 (x15_3 + 1)) < (t205.length : Int)) = true := decide_eq_true c28
                      clear c28
                      by_cases c29 : 0 ≤ x15_3
                      · rw [if_pos c29] at H
                        have c29b0 : decide (0 ≤ x15_3) = true := decide_eq_true c29
                        clear c29
                        by_cases c30 : x15_3 < (t205.length : Int)
                        · rw [if_pos c30] at H
                          have c30b0 : decide (x15_3 < (t205.length : Int)) = true := decide_eq_true c30
                          clear c30
                          replace H := Option.bind_eq_some_iff.mp H
                          obtain ⟨⟨t211, t212⟩, A310, H⟩ := H
                          replace H : (if t212 = true then (if 0 ≤ (wrap64 (x15_3 + 1)) then (if t211 = (rd t205 (wrap64 (x15_3 + 1))) then (tracerylaw02_RingSteps.l0 k3 l0 t205 (wrap64 (x15_3 + 1))) else (some false)) else (none)) else (some false)) = some r := H
                          have A31 := Aside0.mk A310
                          clear A310
                          by_cases c32 : t212 = true
                          · subst c32
                            have H1 : (if 0 ≤ (wrap64 (x15_3 + 1)) then (if t211 = (rd t205 (wrap64 (x15_3 + 1))) then (tracerylaw02_RingSteps.l0 k3 l0 t205 (wrap64 (x15_3 + 1))) else (some false)) else (none)) = some r := by rw [if_pos rfl] at H; exact H
                            clear H
                            have H := H1
                            clear H1
                            obtain ⟨ji33, hji33⟩ : ∃ j_ : Int, (wrap64 (x15_3 + 1)) = j_ := ⟨_, rfl⟩
                            replace H : (if 0 ≤ (ji33) then (if t211 = (rd t205 (ji33)) then (tracerylaw02_RingSteps.l0 k3 l0 t205 ji33) else (some false)) else (none)) = some r := by first | (rw [hji33] at H; exact H) | (simp only [hji33] at H ⊢; exact H)
                            (try rw [hji33] at c28b0)
                            (try rw [hji33] at A31)
                            have hji33w : (IntKind.i64.wrap (x15_3 + 1)) = ji33 := (i64_w _).trans hji33
                            by_cases c34 : 0 ≤ (ji33)
                            · rw [if_pos c34] at H
                              have c34b0 : decide (0 ≤ (ji33)) = true := decide_eq_true c34
                              clear c34
                              by_cases c35 : t211 = (rd t205 (ji33))
                              · rw [if_pos c35] at H
                                have c35b0 : (t211 == (rd t205 (ji33))) = true := beq_iff_eq.mpr c35
                                have c35b1 : (t211 != (rd t205 (ji33))) = false := bne_eq_false_iff_eq.mpr c35
                                clear c35
                                have H' := Aside0.mk H
                                clear H
                                obtain ⟨Ao36, co36, eo36⟩ := Kd.R_slice HO_13.out
                                subst eo36
                                have p210 : 0 ≤ (x15_3 : Int) := of_decide_eq_true (by first | (with_reducible assumption) | assumption)
                                have q210 : x15_3 < (t205.length : Int) := of_decide_eq_true (by first | (with_reducible assumption) | assumption)
                                obtain ⟨ad210, e210, hx210_0⟩ := Kd.at_int (Kd.R_reads' HO_13.out).2.2 x15_3 p210 q210
                                cases e210
                                replace p210 := eq_true p210
                                replace q210 := eq_true q210
                                go_wp2_with (first | ((with_reducible refine gate_callee (f := 13) rfl ?_); refine goesL_ (some 116) rfl rfl Try.func13 (by kernel_rfl) rfl #[.slice A0 l0.length c0, .int .i64 (rd t205 x15_3)] rfl (by (try simp only [List.map_toArray, List.map_cons, List.map_nil]); first | done | rfl | (simp only [List.length_drop, List.length_take]; rfl)) ?_; (with_reducible refine (ring_After.calls k3 _ _ l0 (rd t205 x15_3) t211 true _ ?side1 ?side2 A31.out).mono ?_); (case side1 => repeat (first | exact (Kd.C_below HR0.out HB.out) | (with_reducible refine Kd.C_alloc ?_ _) | (with_reducible refine Kd.C_drewN ?_ _) | (with_reducible refine Kd.C_drew ?_))); (case side2 => exact HC0.out); rintro e w' ⟨rfl, ⟨nd, rfl⟩⟩; refine ⟨_, rfl, ?_⟩; have p213 : 0 ≤ ((ji33) : Int) := of_decide_eq_true (by first | (with_reducible assumption) | assumption); have q213 : (ji33) < (t205.length : Int) := of_decide_eq_true (by first | (with_reducible assumption) | assumption); obtain ⟨ad213, e213, hx213_0⟩ := Kd.at_int (Kd.R_reads' HO_13.out).2.2 (ji33) p213 q213; obtain rfl : ad210 = ad213 := (by injection e213); replace p213 := eq_true p213; replace q213 := eq_true q213))
                                go_roundg k3
                                case measure => have := HJ2.out; have := HJ17.out; have := HK3.out; omega
                                case rel => exact ⟨(ji33), (by first | rfl | (simp; done) | (simp only [← hji33] <;> (first | rfl | simp)) | (simp [*]; done)), H', ⟨by have := HJ2.out; have := HJ17.out; have := HK3.out; omega⟩, ⟨by (with_reducible repeat (first | apply Kd.R_alloc | apply Kd.R_drewN | apply Kd.R_drew)); exact HO_13.out⟩, ⟨by repeat (first | (with_reducible first | exact HB.out | apply below_alloc | apply pw_below_drewN | apply below_drew1) | exact HB.out)⟩⟩
                              · rw [if_neg c35] at H
                                have c35b0 : (t211 == (rd t205 (ji33))) = false := beq_eq_false_iff_ne.mpr c35
                                have c35b1 : (t211 != (rd t205 (ji33))) = true := bne_iff_ne.mpr c35
                                obtain rfl := Option.some.inj H
                                obtain ⟨Ao37, co37, eo37⟩ := Kd.R_slice HO_13.out
                                subst eo37
                                have p210 : 0 ≤ (x15_3 : Int) := of_decide_eq_true (by first | (with_reducible assumption) | assumption)
                                have q210 : x15_3 < (t205.length : Int) := of_decide_eq_true (by first | (with_reducible assumption) | assumption)
                                obtain ⟨ad210, e210, hx210_0⟩ := Kd.at_int (Kd.R_reads' HO_13.out).2.2 x15_3 p210 q210
                                cases e210
                                replace p210 := eq_true p210
                                replace q210 := eq_true q210
                                go_wp2_with (first | ((with_reducible refine gate_callee (f := 13) rfl ?_); refine goesL_ (some 116) rfl rfl Try.func13 (by kernel_rfl) rfl #[.slice A0 l0.length c0, .int .i64 (rd t205 x15_3)] rfl (by (try simp only [List.map_toArray, List.map_cons, List.map_nil]); first | done | rfl | (simp only [List.length_drop, List.length_take]; rfl)) ?_; (with_reducible refine (ring_After.calls k3 _ _ l0 (rd t205 x15_3) t211 true _ ?side1 ?side2 A31.out).mono ?_); (case side1 => repeat (first | exact (Kd.C_below HR0.out HB.out) | (with_reducible refine Kd.C_alloc ?_ _) | (with_reducible refine Kd.C_drewN ?_ _) | (with_reducible refine Kd.C_drew ?_))); (case side2 => exact HC0.out); rintro e w' ⟨rfl, ⟨nd, rfl⟩⟩; refine ⟨_, rfl, ?_⟩; have p213 : 0 ≤ ((ji33) : Int) := of_decide_eq_true (by first | (with_reducible assumption) | assumption); have q213 : (ji33) < (t205.length : Int) := of_decide_eq_true (by first | (with_reducible assumption) | assumption); obtain ⟨ad213, e213, hx213_0⟩ := Kd.at_int (Kd.R_reads' HO_13.out).2.2 (ji33) p213 q213; obtain rfl : ad210 = ad213 := (by injection e213); replace p213 := eq_true p213; replace q213 := eq_true q213))
                                go_ret
                                exact ⟨by first | rfl | trivial | (simp [errW_none, errW_some] <;> rfl) | (simp only [← hji33]; first | rfl | (simp [errW_none, errW_some] <;> rfl)) | (simp [*, errW_none, errW_some] <;> rfl), by repeat (first | (with_reducible first | exact HB.out | apply below_alloc | apply pw_below_drewN | apply below_drew1) | exact HB.out)⟩
                            · rw [if_neg c34] at H
                              exact absurd H (by simp)
                          · replace c32 := Bool.eq_false_iff.mpr c32
                            subst c32
                            have H1 : (some false) = some r := by rw [if_neg (show ¬ (false = true) by decide)] at H; exact H
                            clear H
                            have H := H1
                            clear H1
                            obtain rfl := Option.some.inj H
                            obtain ⟨Ao38, co38, eo38⟩ := Kd.R_slice HO_13.out
                            subst eo38
                            have p210 : 0 ≤ (x15_3 : Int) := of_decide_eq_true (by first | (with_reducible assumption) | assumption)
                            have q210 : x15_3 < (t205.length : Int) := of_decide_eq_true (by first | (with_reducible assumption) | assumption)
                            obtain ⟨ad210, e210, hx210_0⟩ := Kd.at_int (Kd.R_reads' HO_13.out).2.2 x15_3 p210 q210
                            cases e210
                            replace p210 := eq_true p210
                            replace q210 := eq_true q210
                            go_wp2_with (first | ((with_reducible refine gate_callee (f := 13) rfl ?_); refine goesL_ (some 116) rfl rfl Try.func13 (by kernel_rfl) rfl #[.slice A0 l0.length c0, .int .i64 (rd t205 x15_3)] rfl (by (try simp only [List.map_toArray, List.map_cons, List.map_nil]); first | done | rfl | (simp only [List.length_drop, List.length_take]; rfl)) ?_; (with_reducible refine (ring_After.calls k3 _ _ l0 (rd t205 x15_3) t211 false _ ?side1 ?side2 A31.out).mono ?_); (case side1 => repeat (first | exact (Kd.C_below HR0.out HB.out) | (with_reducible refine Kd.C_alloc ?_ _) | (with_reducible refine Kd.C_drewN ?_ _) | (with_reducible refine Kd.C_drew ?_))); (case side2 => exact HC0.out); rintro e w' ⟨rfl, ⟨nd, rfl⟩⟩; refine ⟨_, rfl, ?_⟩))
                            go_ret
                            exact ⟨by first | rfl | trivial | (simp [errW_none, errW_some] <;> rfl) | (simp [*, errW_none, errW_some] <;> rfl), by repeat (first | (with_reducible first | exact HB.out | apply below_alloc | apply pw_below_drewN | apply below_drew1) | exact HB.out)⟩
                        · rw [if_neg c30] at H
                          exact absurd H (by simp)
                      · rw [if_neg c29] at H
                        exact absurd H (by simp)
                    · rw [if_neg c28] at H
                      have c28b0 : decide ((wrap64 (x15_3 + 1)) < (t205.length : Int)) = false := decide_eq_false c28
                      clear c28
                      obtain rfl := Option.some.inj H
                      obtain ⟨Ao39, co39, eo39⟩ := Kd.R_slice HO_13.out
                      subst eo39
                      go_wp2
                      go_ret
                      exact ⟨by first | rfl | trivial | (simp [errW_none, errW_some] <;> rfl) | (simp [*, errW_none, errW_some] <;> rfl), by repeat (first | (with_reducible first | exact HB.out | apply below_alloc | apply pw_below_drewN | apply below_drew1) | exact HB.out)⟩
        · replace c15 := Bool.eq_false_iff.mpr c15
          subst c15
          have H1 : ((ring_Before.f kj2 l0 a1).bind fun bt197 => ((ring_From.f kj2 l0 a1).bind fun bt199 => (if bt197.2 = true then (some false) else (if bt199.2 = true then (some false) else (if (bt199.1.length : Int) = 0 then (some (t195 == 0)) else (some false)))))) = some r := by rw [if_neg (show ¬ (false = true) by decide)] at H; exact H
          clear H
          have H := H1
          clear H1
          replace H := Option.bind_eq_some_iff.mp H
          obtain ⟨⟨t197, t198⟩, A400, H⟩ := H
          replace H : ((ring_From.f kj2 l0 a1).bind fun bt199 => (if t198 = true then (some false) else (if bt199.2 = true then (some false) else (if (bt199.1.length : Int) = 0 then (some (t195 == 0)) else (some false))))) = some r := H
          have A40 := Aside0.mk A400
          clear A400
          replace H := Option.bind_eq_some_iff.mp H
          obtain ⟨⟨t199, t200⟩, A410, H⟩ := H
          replace H : (if t198 = true then (some false) else (if t200 = true then (some false) else (if (t199.length : Int) = 0 then (some (t195 == 0)) else (some false)))) = some r := H
          have A41 := Aside0.mk A410
          clear A410
          by_cases c42 : t198 = true
          · subst c42
            have H1 : (some false) = some r := by rw [if_pos rfl] at H; exact H
            clear H
            have H := H1
            clear H1
            obtain rfl := Option.some.inj H
            go_wp2_with (first | ((with_reducible refine gate_callee (f := 13) rfl ?_); refine goesL_ (some 34) rfl rfl Try.func13 (by kernel_rfl) rfl #[.slice A0 l0.length c0, .int .i64 a1] rfl (by (try simp only [List.map_toArray, List.map_cons, List.map_nil]); first | done | rfl | (simp only [List.length_drop, List.length_take]; rfl)) ?_; (with_reducible refine (ring_After.calls kj2 _ _ l0 a1 t195 false _ ?side1 ?side2 A14.out).mono ?_); (case side1 => repeat (first | exact (Kd.C_below HR0.out HB.out) | (with_reducible refine Kd.C_alloc ?_ _) | (with_reducible refine Kd.C_drewN ?_ _) | (with_reducible refine Kd.C_drew ?_))); (case side2 => exact HC0.out); rintro e w' ⟨rfl, ⟨nd, rfl⟩⟩; refine ⟨_, rfl, ?_⟩) | ((with_reducible refine gate_callee (f := 14) rfl ?_); refine goesL_ (some 42) rfl rfl Try.func14 (by kernel_rfl) rfl #[.slice A0 l0.length c0, .int .i64 a1] rfl (by (try simp only [List.map_toArray, List.map_cons, List.map_nil]); first | done | rfl | (simp only [List.length_drop, List.length_take]; rfl)) ?_; (with_reducible refine (ring_Before.calls kj2 _ _ l0 a1 t197 true _ ?side1 ?side2 A40.out).mono ?_); (case side1 => repeat (first | exact (Kd.C_below HR0.out (by repeat (first | (with_reducible first | exact HB.out | apply below_alloc | apply pw_below_drewN | apply below_drew1) | exact HB.out))) | (with_reducible refine Kd.C_alloc ?_ _) | (with_reducible refine Kd.C_drewN ?_ _) | (with_reducible refine Kd.C_drew ?_))); (case side2 => exact HC0.out); rintro e w' ⟨rfl, ⟨nd, rfl⟩⟩; refine ⟨_, rfl, ?_⟩) | ((with_reducible refine gate_callee (f := 15) rfl ?_); refine goesL_ (some 48) rfl rfl Try.func15 (by kernel_rfl) rfl #[.slice A0 l0.length c0, .int .i64 a1] rfl (by (try simp only [List.map_toArray, List.map_cons, List.map_nil]); first | done | rfl | (simp only [List.length_drop, List.length_take]; rfl)) ?_; (with_reducible refine (ring_From.calls kj2 _ _ l0 a1 t199 t200 _ ?side1 ?side2 A41.out).mono ?_); (case side1 => repeat (first | exact (Kd.C_below HR0.out (by repeat (first | (with_reducible first | exact HB.out | apply below_alloc | apply pw_below_drewN | apply below_drew1) | exact HB.out))) | (with_reducible refine Kd.C_alloc ?_ _) | (with_reducible refine Kd.C_drewN ?_ _) | (with_reducible refine Kd.C_drew ?_))); (case side2 => exact HC0.out); rintro e w43 ⟨v201, rfl, ho0, hb⟩; refine ⟨_, rfl, ?_⟩; have n0_ := Aside0.mk (Kd.R_lower ho0 (below_size (by repeat (first | (with_reducible first | exact HB.out | apply below_alloc | apply pw_below_drewN | apply below_drew1) | exact HB.out)))); have n1_ := Aside0.mk (below_step (by repeat (first | (with_reducible first | exact HB.out | apply below_alloc | apply pw_below_drewN | apply below_drew1) | exact HB.out)) hb); clear HB; have HO202 := n0_; have HB := n1_; clear n0_ n1_; (try clear hb); (try clear hb2); (try clear hk); (try clear hi); (try clear ho0)))
            go_ret
            exact ⟨by first | rfl | trivial | (simp [errW_none, errW_some] <;> rfl) | (simp [*, errW_none, errW_some] <;> rfl), by repeat (first | (with_reducible first | exact HB.out | apply below_alloc | apply pw_below_drewN | apply below_drew1) | exact HB.out)⟩
          · replace c42 := Bool.eq_false_iff.mpr c42
            subst c42
            have H1 : (if t200 = true then (some false) else (if (t199.length : Int) = 0 then (some (t195 == 0)) else (some false))) = some r := by rw [if_neg (show ¬ (false = true) by decide)] at H; exact H
            clear H
            have H := H1
            clear H1
            by_cases c44 : t200 = true
            · subst c44
              have H1 : (some false) = some r := by rw [if_pos rfl] at H; exact H
              clear H
              have H := H1
              clear H1
              obtain rfl := Option.some.inj H
              go_wp2_with (first | ((with_reducible refine gate_callee (f := 13) rfl ?_); refine goesL_ (some 34) rfl rfl Try.func13 (by kernel_rfl) rfl #[.slice A0 l0.length c0, .int .i64 a1] rfl (by (try simp only [List.map_toArray, List.map_cons, List.map_nil]); first | done | rfl | (simp only [List.length_drop, List.length_take]; rfl)) ?_; (with_reducible refine (ring_After.calls kj2 _ _ l0 a1 t195 false _ ?side1 ?side2 A14.out).mono ?_); (case side1 => repeat (first | exact (Kd.C_below HR0.out HB.out) | (with_reducible refine Kd.C_alloc ?_ _) | (with_reducible refine Kd.C_drewN ?_ _) | (with_reducible refine Kd.C_drew ?_))); (case side2 => exact HC0.out); rintro e w' ⟨rfl, ⟨nd, rfl⟩⟩; refine ⟨_, rfl, ?_⟩) | ((with_reducible refine gate_callee (f := 14) rfl ?_); refine goesL_ (some 42) rfl rfl Try.func14 (by kernel_rfl) rfl #[.slice A0 l0.length c0, .int .i64 a1] rfl (by (try simp only [List.map_toArray, List.map_cons, List.map_nil]); first | done | rfl | (simp only [List.length_drop, List.length_take]; rfl)) ?_; (with_reducible refine (ring_Before.calls kj2 _ _ l0 a1 t197 false _ ?side1 ?side2 A40.out).mono ?_); (case side1 => repeat (first | exact (Kd.C_below HR0.out (by repeat (first | (with_reducible first | exact HB.out | apply below_alloc | apply pw_below_drewN | apply below_drew1) | exact HB.out))) | (with_reducible refine Kd.C_alloc ?_ _) | (with_reducible refine Kd.C_drewN ?_ _) | (with_reducible refine Kd.C_drew ?_))); (case side2 => exact HC0.out); rintro e w' ⟨rfl, ⟨nd, rfl⟩⟩; refine ⟨_, rfl, ?_⟩) | ((with_reducible refine gate_callee (f := 15) rfl ?_); refine goesL_ (some 48) rfl rfl Try.func15 (by kernel_rfl) rfl #[.slice A0 l0.length c0, .int .i64 a1] rfl (by (try simp only [List.map_toArray, List.map_cons, List.map_nil]); first | done | rfl | (simp only [List.length_drop, List.length_take]; rfl)) ?_; (with_reducible refine (ring_From.calls kj2 _ _ l0 a1 t199 true _ ?side1 ?side2 A41.out).mono ?_); (case side1 => repeat (first | exact (Kd.C_below HR0.out (by repeat (first | (with_reducible first | exact HB.out | apply below_alloc | apply pw_below_drewN | apply below_drew1) | exact HB.out))) | (with_reducible refine Kd.C_alloc ?_ _) | (with_reducible refine Kd.C_drewN ?_ _) | (with_reducible refine Kd.C_drew ?_))); (case side2 => exact HC0.out); rintro e w45 ⟨v201, rfl, ho0, hb⟩; refine ⟨_, rfl, ?_⟩; have n0_ := Aside0.mk (Kd.R_lower ho0 (below_size (by repeat (first | (with_reducible first | exact HB.out | apply below_alloc | apply pw_below_drewN | apply below_drew1) | exact HB.out)))); have n1_ := Aside0.mk (below_step (by repeat (first | (with_reducible first | exact HB.out | apply below_alloc | apply pw_below_drewN | apply below_drew1) | exact HB.out)) hb); clear HB; have HO202 := n0_; have HB := n1_; clear n0_ n1_; (try clear hb); (try clear hb2); (try clear hk); (try clear hi); (try clear ho0)))
              go_ret
              exact ⟨by first | rfl | trivial | (simp [errW_none, errW_some] <;> rfl) | (simp [*, errW_none, errW_some] <;> rfl), by repeat (first | (with_reducible first | exact HB.out | apply below_alloc | apply pw_below_drewN | apply below_drew1) | exact HB.out)⟩
            · replace c44 := Bool.eq_false_iff.mpr c44
              subst c44
              have H1 : (if (t199.length : Int) = 0 then (some (t195 == 0)) else (some false)) = some r := by rw [if_neg (show ¬ (false = true) by decide)] at H; exact H
              clear H
              have H := H1
              clear H1
              by_cases c46 : (t199.length : Int) = 0
              · rw [if_pos c46] at H
                have c46b0 : ((t199.length : Int) == 0) = true := beq_iff_eq.mpr c46
                have c46b1 : ((t199.length : Int) != 0) = false := bne_eq_false_iff_eq.mpr c46
                clear c46
                obtain rfl := Option.some.inj H
                go_wp2_with (first | ((with_reducible refine gate_callee (f := 13) rfl ?_); refine goesL_ (some 34) rfl rfl Try.func13 (by kernel_rfl) rfl #[.slice A0 l0.length c0, .int .i64 a1] rfl (by (try simp only [List.map_toArray, List.map_cons, List.map_nil]); first | done | rfl | (simp only [List.length_drop, List.length_take]; rfl)) ?_; (with_reducible refine (ring_After.calls kj2 _ _ l0 a1 t195 false _ ?side1 ?side2 A14.out).mono ?_); (case side1 => repeat (first | exact (Kd.C_below HR0.out HB.out) | (with_reducible refine Kd.C_alloc ?_ _) | (with_reducible refine Kd.C_drewN ?_ _) | (with_reducible refine Kd.C_drew ?_))); (case side2 => exact HC0.out); rintro e w' ⟨rfl, ⟨nd, rfl⟩⟩; refine ⟨_, rfl, ?_⟩) | ((with_reducible refine gate_callee (f := 14) rfl ?_); refine goesL_ (some 42) rfl rfl Try.func14 (by kernel_rfl) rfl #[.slice A0 l0.length c0, .int .i64 a1] rfl (by (try simp only [List.map_toArray, List.map_cons, List.map_nil]); first | done | rfl | (simp only [List.length_drop, List.length_take]; rfl)) ?_; (with_reducible refine (ring_Before.calls kj2 _ _ l0 a1 t197 false _ ?side1 ?side2 A40.out).mono ?_); (case side1 => repeat (first | exact (Kd.C_below HR0.out (by repeat (first | (with_reducible first | exact HB.out | apply below_alloc | apply pw_below_drewN | apply below_drew1) | exact HB.out))) | (with_reducible refine Kd.C_alloc ?_ _) | (with_reducible refine Kd.C_drewN ?_ _) | (with_reducible refine Kd.C_drew ?_))); (case side2 => exact HC0.out); rintro e w' ⟨rfl, ⟨nd, rfl⟩⟩; refine ⟨_, rfl, ?_⟩) | ((with_reducible refine gate_callee (f := 15) rfl ?_); refine goesL_ (some 48) rfl rfl Try.func15 (by kernel_rfl) rfl #[.slice A0 l0.length c0, .int .i64 a1] rfl (by (try simp only [List.map_toArray, List.map_cons, List.map_nil]); first | done | rfl | (simp only [List.length_drop, List.length_take]; rfl)) ?_; (with_reducible refine (ring_From.calls kj2 _ _ l0 a1 t199 false _ ?side1 ?side2 A41.out).mono ?_); (case side1 => repeat (first | exact (Kd.C_below HR0.out (by repeat (first | (with_reducible first | exact HB.out | apply below_alloc | apply pw_below_drewN | apply below_drew1) | exact HB.out))) | (with_reducible refine Kd.C_alloc ?_ _) | (with_reducible refine Kd.C_drewN ?_ _) | (with_reducible refine Kd.C_drew ?_))); (case side2 => exact HC0.out); rintro e w47 ⟨v201, rfl, ho0, hb⟩; refine ⟨_, rfl, ?_⟩; have n0_ := Aside0.mk (Kd.R_lower ho0 (below_size (by repeat (first | (with_reducible first | exact HB.out | apply below_alloc | apply pw_below_drewN | apply below_drew1) | exact HB.out)))); have n1_ := Aside0.mk (below_step (by repeat (first | (with_reducible first | exact HB.out | apply below_alloc | apply pw_below_drewN | apply below_drew1) | exact HB.out)) hb); clear HB; have HO202 := n0_; have HB := n1_; clear n0_ n1_; (try clear hb); (try clear hb2); (try clear hk); (try clear hi); (try clear ho0); obtain ⟨Ao48, co48, eo48⟩ := Kd.R_slice HO202.out; subst eo48))
                go_ret
                exact ⟨by first | rfl | trivial | (simp [errW_none, errW_some] <;> rfl) | (simp [*, errW_none, errW_some] <;> rfl), by repeat (first | (with_reducible first | exact HB.out | apply below_alloc | apply pw_below_drewN | apply below_drew1) | exact HB.out)⟩
              · rw [if_neg c46] at H
                have c46b0 : ((t199.length : Int) == 0) = false := beq_eq_false_iff_ne.mpr c46
                have c46b1 : ((t199.length : Int) != 0) = true := bne_iff_ne.mpr c46
                have c46b2 : ¬ (t199 = []) := fun h_ => c46 (by rw [h_]; rfl)
                obtain rfl := Option.some.inj H
                go_wp2_with (first | ((with_reducible refine gate_callee (f := 13) rfl ?_); refine goesL_ (some 34) rfl rfl Try.func13 (by kernel_rfl) rfl #[.slice A0 l0.length c0, .int .i64 a1] rfl (by (try simp only [List.map_toArray, List.map_cons, List.map_nil]); first | done | rfl | (simp only [List.length_drop, List.length_take]; rfl)) ?_; (with_reducible refine (ring_After.calls kj2 _ _ l0 a1 t195 false _ ?side1 ?side2 A14.out).mono ?_); (case side1 => repeat (first | exact (Kd.C_below HR0.out HB.out) | (with_reducible refine Kd.C_alloc ?_ _) | (with_reducible refine Kd.C_drewN ?_ _) | (with_reducible refine Kd.C_drew ?_))); (case side2 => exact HC0.out); rintro e w' ⟨rfl, ⟨nd, rfl⟩⟩; refine ⟨_, rfl, ?_⟩) | ((with_reducible refine gate_callee (f := 14) rfl ?_); refine goesL_ (some 42) rfl rfl Try.func14 (by kernel_rfl) rfl #[.slice A0 l0.length c0, .int .i64 a1] rfl (by (try simp only [List.map_toArray, List.map_cons, List.map_nil]); first | done | rfl | (simp only [List.length_drop, List.length_take]; rfl)) ?_; (with_reducible refine (ring_Before.calls kj2 _ _ l0 a1 t197 false _ ?side1 ?side2 A40.out).mono ?_); (case side1 => repeat (first | exact (Kd.C_below HR0.out (by repeat (first | (with_reducible first | exact HB.out | apply below_alloc | apply pw_below_drewN | apply below_drew1) | exact HB.out))) | (with_reducible refine Kd.C_alloc ?_ _) | (with_reducible refine Kd.C_drewN ?_ _) | (with_reducible refine Kd.C_drew ?_))); (case side2 => exact HC0.out); rintro e w' ⟨rfl, ⟨nd, rfl⟩⟩; refine ⟨_, rfl, ?_⟩) | ((with_reducible refine gate_callee (f := 15) rfl ?_); refine goesL_ (some 48) rfl rfl Try.func15 (by kernel_rfl) rfl #[.slice A0 l0.length c0, .int .i64 a1] rfl (by (try simp only [List.map_toArray, List.map_cons, List.map_nil]); first | done | rfl | (simp only [List.length_drop, List.length_take]; rfl)) ?_; (with_reducible refine (ring_From.calls kj2 _ _ l0 a1 t199 false _ ?side1 ?side2 A41.out).mono ?_); (case side1 => repeat (first | exact (Kd.C_below HR0.out (by repeat (first | (with_reducible first | exact HB.out | apply below_alloc | apply pw_below_drewN | apply below_drew1) | exact HB.out))) | (with_reducible refine Kd.C_alloc ?_ _) | (with_reducible refine Kd.C_drewN ?_ _) | (with_reducible refine Kd.C_drew ?_))); (case side2 => exact HC0.out); rintro e w49 ⟨v201, rfl, ho0, hb⟩; refine ⟨_, rfl, ?_⟩; have n0_ := Aside0.mk (Kd.R_lower ho0 (below_size (by repeat (first | (with_reducible first | exact HB.out | apply below_alloc | apply pw_below_drewN | apply below_drew1) | exact HB.out)))); have n1_ := Aside0.mk (below_step (by repeat (first | (with_reducible first | exact HB.out | apply below_alloc | apply pw_below_drewN | apply below_drew1) | exact HB.out)) hb); clear HB; have HO202 := n0_; have HB := n1_; clear n0_ n1_; (try clear hb); (try clear hb2); (try clear hk); (try clear hi); (try clear ho0); obtain ⟨Ao50, co50, eo50⟩ := Kd.R_slice HO202.out; subst eo50))
                go_ret
                exact ⟨by first | rfl | trivial | (simp [errW_none, errW_some] <;> rfl) | (simp [*, errW_none, errW_some] <;> rfl), by repeat (first | (with_reducible first | exact HB.out | apply below_alloc | apply pw_below_drewN | apply below_drew1) | exact HB.out)⟩

/-- THE ONE PURE STATEMENT of tracerylaw02_RingSteps: yours. -/
def tracerylaw02_RingSteps.Pure : Prop := ∀ (l0 : List Int) (a1 : Int), l0.length ≤ maxLen → l0.length * 8 ≤ 140737488351232 → (∀ x ∈ l0, (Lit.int .i64 x).wf = true) → (Lit.int .i64 a1).wf = true → ∃ k, tracerylaw02_RingSteps.f k l0 a1 = some true
theorem tracerylaw02_RingSteps.walk (P : tracerylaw02_RingSteps.Pure) (a0 : Option Addr) (len0 cap0 : Nat) (z0 : List Int) (a1 : Int) (w : World) (w0 : (a0 = none ∧ len0 = 0 ∧ cap0 = 0 ∧ z0 = []) ∨ ∃ x, a0 = some x ∧ len0 ≤ cap0 ∧ cap0 ≤ maxLen ∧ z0.length = cap0 ∧ (∀ i, i < z0.length → w.cell? (x.add i) = some (.int .i64 (z0.getD i 0))) ∧ ∀ n ∈ z0, (Lit.int .i64 n).wf = true) (y0 : len0 * 8 ≤ 140737488351232) (w1 : (Lit.int .i64 a1).wf = true) :
    Calls Try.prog 4 #[.slice a0 len0 cap0, .int .i64 a1] w fun e w' => e = .returned (.bool true) ∧ Below w.heap.size w w' := by
  obtain ⟨l0, rfl, hr0, hm0, hw0, hc0⟩ := ReadsInt.ofRowC w0
  obtain ⟨k, h⟩ := P l0 a1 hm0 y0 hw0 w1
  refine (tracerylaw02_RingSteps.calls k _ _ l0 a1 true w (Kd.C_of_reads (d := (0 : Int)) (h1 := fun _ => rfl) hr0) hc0 h).mono ?_
  rintro e w' ⟨rfl, hd⟩
  exact ⟨rfl, hd⟩

end Go.Proofs.Ytcfclhlgjpidhaa.PA
