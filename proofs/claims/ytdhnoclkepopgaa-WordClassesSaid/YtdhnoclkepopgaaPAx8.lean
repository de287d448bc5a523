-- Written by wip/tools/gprint.py of this repo (the kit's printer, some functions given).
import Derived.Test.YtdhnoclkepopgaaPAx0
import Derived.Test.YtdhnoclkepopgaaPAx2
import Derived.Test.YtdhnoclkepopgaaPAx7
namespace Go.Proofs.Ytdhnoclkepopgaa.PA
open Go.RowKit Go.Proofs.YtdhnoclkepopgaaW.PrintWords Go.Proofs.YtdhnoclkepopgaaW.PrintLast Go.Proofs.YtdhnoclkepopgaaW.PrintMore
attribute [local go_sem] max2_int min2_int max_two min_two max_three min_three max_four min_four   -- for this text's walks alone
set_option linter.unusedVariables false
set_option linter.unusedSimpArgs false
set_option linter.unnecessarySimpa false

/-! ### tracerylaw01_WordWhole: function 3 -/
mutual
def tracerylaw01_WordWhole.j0 : Nat → ByteArray → Bool → Option (Bool)
  | 0, _, _ => none
  | k + 1, x0, x16 => if x16 = true then ((tracerylaw01_awake.f).bind fun t111 => (some t111)) else ((word_Split.f x0).bind fun t112 => (tracerylaw01_WordWhole.l0 k x0 0 t112 0))
def tracerylaw01_WordWhole.l0 : Nat → ByteArray → Int → List (S26) → Int → Option (Bool)
  | 0, _, _, _, _ => none
  | k + 1, x0, x3, x4, x5 => if x5 < (x4.length : Int) then (if 0 ≤ x5 then (if ((rd_T26 x4 x5).f0) < x3 then (tracerylaw01_WordWhole.j2 k x0 x3 x4 x5 true ((rd_T26 x4 x5).f0) ((rd_T26 x4 x5).f1)) else (if (((rd_T26 x4 x5).f1).size : Int) = 0 then (tracerylaw01_WordWhole.j2 k x0 x3 x4 x5 true ((rd_T26 x4 x5).f0) ((rd_T26 x4 x5).f1)) else (if (wrap64 (((rd_T26 x4 x5).f0) + (((rd_T26 x4 x5).f1).size : Int))) > (x0.size : Int) then (tracerylaw01_WordWhole.j2 k x0 x3 x4 x5 true ((rd_T26 x4 x5).f0) ((rd_T26 x4 x5).f1)) else (if 0 ≤ ((rd_T26 x4 x5).f0) then (if ((rd_T26 x4 x5).f0) ≤ (wrap64 (((rd_T26 x4 x5).f0) + (((rd_T26 x4 x5).f1).size : Int))) then (if (wrap64 (((rd_T26 x4 x5).f0) + (((rd_T26 x4 x5).f1).size : Int))) ≤ (x0.size : Int) then (if (x0.extract (((rd_T26 x4 x5).f0) : Int).toNat ((wrap64 (((rd_T26 x4 x5).f0) + (((rd_T26 x4 x5).f1).size : Int))) : Int).toNat).toList = ((rd_T26 x4 x5).f1).toList then (if x5 > 0 then (tracerylaw01_WordWhole.j2 k x0 x3 x4 x5 (((rd_T26 x4 x5).f0) == x3) ((rd_T26 x4 x5).f0) ((rd_T26 x4 x5).f1)) else (tracerylaw01_WordWhole.j2 k x0 x3 x4 x5 false ((rd_T26 x4 x5).f0) ((rd_T26 x4 x5).f1))) else (tracerylaw01_WordWhole.j2 k x0 x3 x4 x5 true ((rd_T26 x4 x5).f0) ((rd_T26 x4 x5).f1))) else (none)) else (none)) else (none))))) else (none)) else (tracerylaw01_WordWhole.l3 k x0 x3)
def tracerylaw01_WordWhole.j2 : Nat → ByteArray → Int → List (S26) → Int → Bool → Int → ByteArray → Option (Bool)
  | 0, _, _, _, _, _, _, _ => none
  | k + 1, x0, x3, x4, x5, x75, x117000, x117001 => if x75 = true then (some false) else (tracerylaw01_WordWhole.l1 k x0 x4 x5 x3 x117000 x117001)
def tracerylaw01_WordWhole.l1 : Nat → ByteArray → List (S26) → Int → Int → Int → ByteArray → Option (Bool)
  | 0, _, _, _, _, _, _ => none
  | k + 1, x0, x4, x5, x7, x117000, x117001 => if x7 < x117000 then (if 0 ≤ x7 then (if x7 < (x0.size : Int) then (if (bt x0 x7) = 32 then (tracerylaw01_WordWhole.l1 k x0 x4 x5 (wrap64 (x7 + 1)) x117000 x117001) else (some false)) else (none)) else (none)) else (tracerylaw01_WordWhole.l2 k x0 x4 x5 0 x117000 x117001)
def tracerylaw01_WordWhole.l2 : Nat → ByteArray → List (S26) → Int → Int → Int → ByteArray → Option (Bool)
  | 0, _, _, _, _, _, _ => none
  | k + 1, x0, x4, x5, x8, x117000, x117001 => if x8 < (x117001.size : Int) then (if 0 ≤ x8 then (if (bt x117001 x8) = 32 then (some false) else (tracerylaw01_WordWhole.l2 k x0 x4 x5 (wrap64 (x8 + 1)) x117000 x117001)) else (none)) else (tracerylaw01_WordWhole.l0 k x0 (wrap64 (x117000 + (x117001.size : Int))) x4 (wrap64 (x5 + 1)))
def tracerylaw01_WordWhole.l3 : Nat → ByteArray → Int → Option (Bool)
  | 0, _, _ => none
  | k + 1, x0, x9 => if x9 < (x0.size : Int) then (if 0 ≤ x9 then (if (bt x0 x9) = 32 then (tracerylaw01_WordWhole.l3 k x0 (wrap64 (x9 + 1))) else (some false)) else (none)) else (some true)
end
def tracerylaw01_WordWhole.f (k : Nat) (a0 : ByteArray) : Option (Bool) := (tracerylaw01_awake.f).bind fun t110 => (if t110 = true then (tracerylaw01_WordWhole.j0 k a0 (decide ((a0.size : Int) > 3000))) else (tracerylaw01_WordWhole.j0 k a0 true))
theorem tracerylaw01_WordWhole.mono_l : ∀ k, (∀ y0 y1, LeO (tracerylaw01_WordWhole.j0 k y0 y1) (tracerylaw01_WordWhole.j0 (k + 1) y0 y1)) ∧ (∀ y0 y1 y2 y3, LeO (tracerylaw01_WordWhole.l0 k y0 y1 y2 y3) (tracerylaw01_WordWhole.l0 (k + 1) y0 y1 y2 y3)) ∧ (∀ y0 y1 y2 y3 y4 y5 y6, LeO (tracerylaw01_WordWhole.j2 k y0 y1 y2 y3 y4 y5 y6) (tracerylaw01_WordWhole.j2 (k + 1) y0 y1 y2 y3 y4 y5 y6)) ∧ (∀ y0 y1 y2 y3 y4 y5, LeO (tracerylaw01_WordWhole.l1 k y0 y1 y2 y3 y4 y5) (tracerylaw01_WordWhole.l1 (k + 1) y0 y1 y2 y3 y4 y5)) ∧ (∀ y0 y1 y2 y3 y4 y5, LeO (tracerylaw01_WordWhole.l2 k y0 y1 y2 y3 y4 y5) (tracerylaw01_WordWhole.l2 (k + 1) y0 y1 y2 y3 y4 y5)) ∧ (∀ y0 y1, LeO (tracerylaw01_WordWhole.l3 k y0 y1) (tracerylaw01_WordWhole.l3 (k + 1) y0 y1))
  | 0 => ⟨fun _ _ r h => by simp [tracerylaw01_WordWhole.j0] at h, fun _ _ _ _ r h => by simp [tracerylaw01_WordWhole.l0] at h, fun _ _ _ _ _ _ _ r h => by simp [tracerylaw01_WordWhole.j2] at h, fun _ _ _ _ _ _ r h => by simp [tracerylaw01_WordWhole.l1] at h, fun _ _ _ _ _ _ r h => by simp [tracerylaw01_WordWhole.l2] at h, fun _ _ r h => by simp [tracerylaw01_WordWhole.l3] at h⟩
  | k + 1 => by
    obtain ⟨ih0, ih1, ih2, ih3, ih4, ih5⟩ := tracerylaw01_WordWhole.mono_l k
    refine ⟨?_, ?_, ?_, ?_, ?_, ?_⟩
    · intro y0 y1
      unfold tracerylaw01_WordWhole.j0
      repeat' first
      | (with_reducible exact ih0 _ _)
      | (with_reducible exact ih1 _ _ _ _)
      | (with_reducible exact ih2 _ _ _ _ _ _ _)
      | (with_reducible exact ih3 _ _ _ _ _ _)
      | (with_reducible exact ih4 _ _ _ _ _ _)
      | (with_reducible exact ih5 _ _)
      | (with_reducible exact LeO.refl _)
      | (with_reducible exact LeO.none _)
      | (with_reducible refine LeO.ite ?_ ?_)
      | (with_reducible refine LeO.bind ?_ (fun _ => ?_))
      | exact ih0 _ _
      | exact ih1 _ _ _ _
      | exact ih2 _ _ _ _ _ _ _
      | exact ih3 _ _ _ _ _ _
      | exact ih4 _ _ _ _ _ _
      | exact ih5 _ _
      | exact LeO.none _
      | refine LeO.ite ?_ ?_
      | refine LeO.bind ?_ (fun _ => ?_)
    · intro y0 y1 y2 y3
      unfold tracerylaw01_WordWhole.l0
      repeat' first
      | (with_reducible exact ih0 _ _)
      | (with_reducible exact ih1 _ _ _ _)
      | (with_reducible exact ih2 _ _ _ _ _ _ _)
      | (with_reducible exact ih3 _ _ _ _ _ _)
      | (with_reducible exact ih4 _ _ _ _ _ _)
      | (with_reducible exact ih5 _ _)
      | (with_reducible exact LeO.refl _)
      | (with_reducible exact LeO.none _)
      | (with_reducible refine LeO.ite ?_ ?_)
      | (with_reducible refine LeO.bind ?_ (fun _ => ?_))
      | exact ih0 _ _
      | exact ih1 _ _ _ _
      | exact ih2 _ _ _ _ _ _ _
      | exact ih3 _ _ _ _ _ _
      | exact ih4 _ _ _ _ _ _
      | exact ih5 _ _
      | exact LeO.none _
      | refine LeO.ite ?_ ?_
      | refine LeO.bind ?_ (fun _ => ?_)
    · intro y0 y1 y2 y3 y4 y5 y6
      unfold tracerylaw01_WordWhole.j2
      repeat' first
      | (with_reducible exact ih0 _ _)
      | (with_reducible exact ih1 _ _ _ _)
      | (with_reducible exact ih2 _ _ _ _ _ _ _)
      | (with_reducible exact ih3 _ _ _ _ _ _)
      | (with_reducible exact ih4 _ _ _ _ _ _)
      | (with_reducible exact ih5 _ _)
      | (with_reducible exact LeO.refl _)
      | (with_reducible exact LeO.none _)
      | (with_reducible refine LeO.ite ?_ ?_)
      | (with_reducible refine LeO.bind ?_ (fun _ => ?_))
      | exact ih0 _ _
      | exact ih1 _ _ _ _
      | exact ih2 _ _ _ _ _ _ _
      | exact ih3 _ _ _ _ _ _
      | exact ih4 _ _ _ _ _ _
      | exact ih5 _ _
      | exact LeO.none _
      | refine LeO.ite ?_ ?_
      | refine LeO.bind ?_ (fun _ => ?_)
    · intro y0 y1 y2 y3 y4 y5
      unfold tracerylaw01_WordWhole.l1
      repeat' first
      | (with_reducible exact ih0 _ _)
      | (with_reducible exact ih1 _ _ _ _)
      | (with_reducible exact ih2 _ _ _ _ _ _ _)
      | (with_reducible exact ih3 _ _ _ _ _ _)
      | (with_reducible exact ih4 _ _ _ _ _ _)
      | (with_reducible exact ih5 _ _)
      | (with_reducible exact LeO.refl _)
      | (with_reducible exact LeO.none _)
      | (with_reducible refine LeO.ite ?_ ?_)
      | (with_reducible refine LeO.bind ?_ (fun _ => ?_))
      | exact ih0 _ _
      | exact ih1 _ _ _ _
      | exact ih2 _ _ _ _ _ _ _
      | exact ih3 _ _ _ _ _ _
      | exact ih4 _ _ _ _ _ _
      | exact ih5 _ _
      | exact LeO.none _
      | refine LeO.ite ?_ ?_
      | refine LeO.bind ?_ (fun _ => ?_)
    · intro y0 y1 y2 y3 y4 y5
      unfold tracerylaw01_WordWhole.l2
      repeat' first
      | (with_reducible exact ih0 _ _)
      | (with_reducible exact ih1 _ _ _ _)
      | (with_reducible exact ih2 _ _ _ _ _ _ _)
      | (with_reducible exact ih3 _ _ _ _ _ _)
      | (with_reducible exact ih4 _ _ _ _ _ _)
      | (with_reducible exact ih5 _ _)
      | (with_reducible exact LeO.refl _)
      | (with_reducible exact LeO.none _)
      | (with_reducible refine LeO.ite ?_ ?_)
      | (with_reducible refine LeO.bind ?_ (fun _ => ?_))
      | exact ih0 _ _
      | exact ih1 _ _ _ _
      | exact ih2 _ _ _ _ _ _ _
      | exact ih3 _ _ _ _ _ _
      | exact ih4 _ _ _ _ _ _
      | exact ih5 _ _
      | exact LeO.none _
      | refine LeO.ite ?_ ?_
      | refine LeO.bind ?_ (fun _ => ?_)
    · intro y0 y1
      unfold tracerylaw01_WordWhole.l3
      repeat' first
      | (with_reducible exact ih0 _ _)
      | (with_reducible exact ih1 _ _ _ _)
      | (with_reducible exact ih2 _ _ _ _ _ _ _)
      | (with_reducible exact ih3 _ _ _ _ _ _)
      | (with_reducible exact ih4 _ _ _ _ _ _)
      | (with_reducible exact ih5 _ _)
      | (with_reducible exact LeO.refl _)
      | (with_reducible exact LeO.none _)
      | (with_reducible refine LeO.ite ?_ ?_)
      | (with_reducible refine LeO.bind ?_ (fun _ => ?_))
      | exact ih0 _ _
      | exact ih1 _ _ _ _
      | exact ih2 _ _ _ _ _ _ _
      | exact ih3 _ _ _ _ _ _
      | exact ih4 _ _ _ _ _ _
      | exact ih5 _ _
      | exact LeO.none _
      | refine LeO.ite ?_ ?_
      | refine LeO.bind ?_ (fun _ => ?_)
theorem tracerylaw01_WordWhole.mono : ∀ a0 k, LeO (tracerylaw01_WordWhole.f k a0) (tracerylaw01_WordWhole.f (k + 1) a0) := by
  intro a0 k
  obtain ⟨ih0, ih1, ih2, ih3, ih4, ih5⟩ := tracerylaw01_WordWhole.mono_l k
  unfold tracerylaw01_WordWhole.f
  repeat' first
      | (with_reducible exact ih0 _ _)
      | (with_reducible exact ih1 _ _ _ _)
      | (with_reducible exact ih2 _ _ _ _ _ _ _)
      | (with_reducible exact ih3 _ _ _ _ _ _)
      | (with_reducible exact ih4 _ _ _ _ _ _)
      | (with_reducible exact ih5 _ _)
      | (with_reducible exact LeO.refl _)
      | (with_reducible exact LeO.none _)
      | (with_reducible refine LeO.ite ?_ ?_)
      | (with_reducible refine LeO.bind ?_ (fun _ => ?_))
      | exact ih0 _ _
      | exact ih1 _ _ _ _
      | exact ih2 _ _ _ _ _ _ _
      | exact ih3 _ _ _ _ _ _
      | exact ih4 _ _ _ _ _ _
      | exact ih5 _ _
      | exact LeO.none _
      | refine LeO.ite ?_ ?_
      | refine LeO.bind ?_ (fun _ => ?_)
set_option maxHeartbeats 8000000 in
set_option maxRecDepth 100000 in
theorem tracerylaw01_WordWhole.calls (k : Nat) (a0 : ByteArray) (r : Bool) (w : World) (h : tracerylaw01_WordWhole.f k a0 = some r) :
    Calls Try.prog 3 #[.string a0] w fun e w' => e = .returned (.bool r) ∧ Below w.heap.size w w' := by
  have hu26 := Try.underlying26
  have HB := Aside0.mk (Below.refl w.heap.size w)
  have H : ((tracerylaw01_awake.f).bind fun t110 => (if t110 = true then (tracerylaw01_WordWhole.j0 k a0 (decide ((a0.size : Int) > 3000))) else (tracerylaw01_WordWhole.j0 k a0 true))) = some r := h
  clear h
  have HC2 := Aside0.mk H
  clear H
  go_enter Try.func3, Try.ntmps3
  go_upto_region 1 with (fail)
  repeat (go_quiet (fail); go_upto_region 1 with (fail))
  go_cut [16] (fun v16 wc => ∃ (kq : Nat) (x16_1 : Bool), v16 = .bool x16_1 ∧ Aside0 (tracerylaw01_WordWhole.j0 kq a0 x16_1 = some r) ∧ Aside0 (kq ≤ k) ∧ Aside0 (Below w.heap.size w wc))
  case first =>
    have H := HC2.out
    clear HC2
    replace H := Option.bind_eq_some_iff.mp H
    obtain ⟨t110, A30, H⟩ := H
    replace H : (if t110 = true then (tracerylaw01_WordWhole.j0 k a0 (decide ((a0.size : Int) > 3000))) else (tracerylaw01_WordWhole.j0 k a0 true)) = some r := H
    have A3 := Aside0.mk A30
    clear A30
    by_cases c4 : t110 = true
    · subst c4
      have H1 : (tracerylaw01_WordWhole.j0 k a0 (decide ((a0.size : Int) > 3000))) = some r := by rw [if_pos rfl] at H; exact H
      clear H
      have H := H1
      clear H1
      have H' := Aside0.mk H
      clear H
      go_wp2_with (first | (go_at_call 9; (with_reducible refine (tracerylaw01_awake.calls  true _ A3.out).mono ?_); rintro e w5 ⟨rfl, hb⟩; have n0_ := Aside0.mk (below_step (by repeat (first | (with_reducible first | exact HB.out | apply below_alloc | apply pw_below_drewN | apply below_drew1) | exact HB.out)) hb); clear HB; have HB := n0_; clear n0_; (try clear hb); (try clear hb2); (try clear hk); (try clear hi)))
      repeat (go_quiet (first | (go_at_call 9; (with_reducible refine (tracerylaw01_awake.calls  true _ A3.out).mono ?_); rintro e w5 ⟨rfl, hb⟩; have n0_ := Aside0.mk (below_step (by repeat (first | (with_reducible first | exact HB.out | apply below_alloc | apply pw_below_drewN | apply below_drew1) | exact HB.out)) hb); clear HB; have HB := n0_; clear n0_; (try clear hb); (try clear hb2); (try clear hk); (try clear hi))); try go_wp2_with (first | (go_at_call 9; (with_reducible refine (tracerylaw01_awake.calls  true _ A3.out).mono ?_); rintro e w5 ⟨rfl, hb⟩; have n0_ := Aside0.mk (below_step (by repeat (first | (with_reducible first | exact HB.out | apply below_alloc | apply pw_below_drewN | apply below_drew1) | exact HB.out)) hb); clear HB; have HB := n0_; clear n0_; (try clear hb); (try clear hb2); (try clear hk); (try clear hi))))
      go_meet
      case rel => exact ⟨_, (decide ((a0.size : Int) > 3000)), (by first | rfl | (simp; done) | (simp [*]; done)), H', ⟨by first | omega | exact Nat.le_refl _⟩, ⟨by repeat (first | (with_reducible first | exact HB.out | apply below_alloc | apply pw_below_drewN | apply below_drew1) | exact HB.out)⟩⟩
    · replace c4 := Bool.eq_false_iff.mpr c4
      subst c4
      have H1 : (tracerylaw01_WordWhole.j0 k a0 true) = some r := by rw [if_neg (show ¬ (false = true) by decide)] at H; exact H
      clear H
      have H := H1
      clear H1
      have H' := Aside0.mk H
      clear H
      go_wp2_with (first | (go_at_call 9; (with_reducible refine (tracerylaw01_awake.calls  false _ A3.out).mono ?_); rintro e w6 ⟨rfl, hb⟩; have n0_ := Aside0.mk (below_step (by repeat (first | (with_reducible first | exact HB.out | apply below_alloc | apply pw_below_drewN | apply below_drew1) | exact HB.out)) hb); clear HB; have HB := n0_; clear n0_; (try clear hb); (try clear hb2); (try clear hk); (try clear hi)))
      repeat (go_quiet (first | (go_at_call 9; (with_reducible refine (tracerylaw01_awake.calls  false _ A3.out).mono ?_); rintro e w6 ⟨rfl, hb⟩; have n0_ := Aside0.mk (below_step (by repeat (first | (with_reducible first | exact HB.out | apply below_alloc | apply pw_below_drewN | apply below_drew1) | exact HB.out)) hb); clear HB; have HB := n0_; clear n0_; (try clear hb); (try clear hb2); (try clear hk); (try clear hi))); try go_wp2_with (first | (go_at_call 9; (with_reducible refine (tracerylaw01_awake.calls  false _ A3.out).mono ?_); rintro e w6 ⟨rfl, hb⟩; have n0_ := Aside0.mk (below_step (by repeat (first | (with_reducible first | exact HB.out | apply below_alloc | apply pw_below_drewN | apply below_drew1) | exact HB.out)) hb); clear HB; have HB := n0_; clear n0_; (try clear hb); (try clear hb2); (try clear hk); (try clear hi))))
      go_meet
      case rel => exact ⟨_, (true), (by first | rfl | (simp; done) | (simp [*]; done)), H', ⟨by first | omega | exact Nat.le_refl _⟩, ⟨by repeat (first | (with_reducible first | exact HB.out | apply below_alloc | apply pw_below_drewN | apply below_drew1) | exact HB.out)⟩⟩
  case rest =>
    clear HC2
    try clear p2
    try clear c3
    try clear c4
    obtain ⟨kq, x16_1, rfl, HA, HJ1, HB⟩ := hcut
    cases kq with
    | zero => exact absurd HA.out (by simp [tracerylaw01_WordWhole.j0])
    | succ kj1 =>
      have H := HA.out
      clear HA
      simp only [tracerylaw01_WordWhole.j0] at H
      by_cases c7 : x16_1 = true
      · subst c7
        have H1 : ((tracerylaw01_awake.f).bind fun t111 => (some t111)) = some r := by rw [if_pos rfl] at H; exact H
        clear H
        have H := H1
        clear H1
        replace H := Option.bind_eq_some_iff.mp H
        obtain ⟨t111, A80, H⟩ := H
        replace H : (some t111) = some r := H
        have A8 := Aside0.mk A80
        clear A80
        obtain rfl := Option.some.inj H
        go_wp2_with (first | (go_at_call 9; (with_reducible refine (tracerylaw01_awake.calls  t111 _ A8.out).mono ?_); rintro e w9 ⟨rfl, hb⟩; have n0_ := Aside0.mk (below_step (by repeat (first | (with_reducible first | exact HB.out | apply below_alloc | apply pw_below_drewN | apply below_drew1) | exact HB.out)) hb); clear HB; have HB := n0_; clear n0_; (try clear hb); (try clear hb2); (try clear hk); (try clear hi)))
        repeat (go_quiet (first | (go_at_call 9; (with_reducible refine (tracerylaw01_awake.calls  t111 _ A8.out).mono ?_); rintro e w9 ⟨rfl, hb⟩; have n0_ := Aside0.mk (below_step (by repeat (first | (with_reducible first | exact HB.out | apply below_alloc | apply pw_below_drewN | apply below_drew1) | exact HB.out)) hb); clear HB; have HB := n0_; clear n0_; (try clear hb); (try clear hb2); (try clear hk); (try clear hi))); try go_wp2_with (first | (go_at_call 9; (with_reducible refine (tracerylaw01_awake.calls  t111 _ A8.out).mono ?_); rintro e w9 ⟨rfl, hb⟩; have n0_ := Aside0.mk (below_step (by repeat (first | (with_reducible first | exact HB.out | apply below_alloc | apply pw_below_drewN | apply below_drew1) | exact HB.out)) hb); clear HB; have HB := n0_; clear n0_; (try clear hb); (try clear hb2); (try clear hk); (try clear hi))))
        go_ret
        exact ⟨by first | rfl | trivial | (simp [errW_none, errW_some] <;> rfl) | (simp [*, errW_none, errW_some] <;> rfl), by repeat (first | (with_reducible first | exact HB.out | apply below_alloc | apply pw_below_drewN | apply below_drew1) | exact HB.out)⟩
      · replace c7 := Bool.eq_false_iff.mpr c7
        subst c7
        have H1 : ((word_Split.f a0).bind fun t112 => (tracerylaw01_WordWhole.l0 kj1 a0 0 t112 0)) = some r := by rw [if_neg (show ¬ (false = true) by decide)] at H; exact H
        clear H
        have H := H1
        clear H1
        replace H := Option.bind_eq_some_iff.mp H
        obtain ⟨t112, A100, H⟩ := H
        replace H : (tracerylaw01_WordWhole.l0 kj1 a0 0 t112 0) = some r := H
        have A10 := Aside0.mk A100
        clear A100
        have H' := Aside0.mk H
        clear H
        go_wp2_with (first | (go_at_call 10; (with_reducible refine (word_Split.calls a0 t112 _ A10.out).mono ?_); rintro e w11 ⟨v113, rfl, ho0, hb⟩; have n0_ := Aside0.mk (Kd.R_lower ho0 (below_size (by repeat (first | (with_reducible first | exact HB.out | apply below_alloc | apply pw_below_drewN | apply below_drew1) | exact HB.out)))); have n1_ := Aside0.mk (below_step (by repeat (first | (with_reducible first | exact HB.out | apply below_alloc | apply pw_below_drewN | apply below_drew1) | exact HB.out)) hb); clear HB; have HO114 := n0_; have HB := n1_; clear n0_ n1_; (try clear hb); (try clear hb2); (try clear hk); (try clear hi); (try clear ho0)))
        repeat (go_quiet (first | (go_at_call 10; (with_reducible refine (word_Split.calls a0 t112 _ A10.out).mono ?_); rintro e w11 ⟨v113, rfl, ho0, hb⟩; have n0_ := Aside0.mk (Kd.R_lower ho0 (below_size (by repeat (first | (with_reducible first | exact HB.out | apply below_alloc | apply pw_below_drewN | apply below_drew1) | exact HB.out)))); have n1_ := Aside0.mk (below_step (by repeat (first | (with_reducible first | exact HB.out | apply below_alloc | apply pw_below_drewN | apply below_drew1) | exact HB.out)) hb); clear HB; have HO114 := n0_; have HB := n1_; clear n0_ n1_; (try clear hb); (try clear hb2); (try clear hk); (try clear hi); (try clear ho0))); try go_wp2_with (first | (go_at_call 10; (with_reducible refine (word_Split.calls a0 t112 _ A10.out).mono ?_); rintro e w11 ⟨v113, rfl, ho0, hb⟩; have n0_ := Aside0.mk (Kd.R_lower ho0 (below_size (by repeat (first | (with_reducible first | exact HB.out | apply below_alloc | apply pw_below_drewN | apply below_drew1) | exact HB.out)))); have n1_ := Aside0.mk (below_step (by repeat (first | (with_reducible first | exact HB.out | apply below_alloc | apply pw_below_drewN | apply below_drew1) | exact HB.out)) hb); clear HB; have HO114 := n0_; have HB := n1_; clear n0_ n1_; (try clear hb); (try clear hb2); (try clear hk); (try clear hi); (try clear ho0))))
        go_loopg [3, 5] kj1 (fun kq v3 v5 w' => ∃ (x3_2 : Int) (x5_2 : Int), v3 = .int .i64 x3_2 ∧ v5 = .int .i64 x5_2 ∧ Aside0 (tracerylaw01_WordWhole.l0 kq a0 x3_2 t112 x5_2 = some r) ∧ Aside0 (kq ≤ kj1) ∧ Aside0 (Kd.R k26 26 w' w.heap.size (fun _ => True) v113 t112) ∧ Aside0 (Below w.heap.size w w'))
        case atStart => exact ⟨(0), (0), (by first | rfl | (simp; done) | (simp [*]; done)), (by first | rfl | (simp; done) | (simp [*]; done)), H', ⟨Nat.le_refl _⟩, ⟨by (with_reducible repeat (first | apply Kd.R_alloc | apply Kd.R_drewN | apply Kd.R_drew)); exact HO114.out⟩, ⟨by repeat (first | (with_reducible first | exact HB.out | apply below_alloc | apply pw_below_drewN | apply below_drew1) | exact HB.out)⟩⟩
        case round =>
          clear H'
          try clear p2
          try clear c3
          try clear c4
          try clear c7
          try clear p2
          obtain ⟨x3_2, x5_2, rfl, rfl, HA, HK2, HO_4, HB⟩ := hrel
          cases gk with
          | zero => exact absurd HA.out (by simp [tracerylaw01_WordWhole.l0])
          | succ k2 =>
            have H := HA.out
            clear HA
            simp only [tracerylaw01_WordWhole.l0] at H
            by_cases c12 : x5_2 < (t112.length : Int)
            · rw [if_pos c12] at H
              have c12b0 : decide (x5_2 < (t112.length : Int)) = true := decide_eq_true c12
              clear c12
              by_cases c13 : 0 ≤ x5_2
              · rw [if_pos c13] at H
                have c13b0 : decide (0 ≤ x5_2) = true := decide_eq_true c13
                clear c13
                have HC14 := Aside0.mk H
                clear H
                obtain ⟨Ao15, co15, eo15⟩ := Kd.R_slice HO_4.out
                subst eo15
                have p115 : 0 ≤ (x5_2 : Int) := of_decide_eq_true (by first | (with_reducible assumption) | assumption)
                have q115 : x5_2 < (t112.length : Int) := of_decide_eq_true (by first | (with_reducible assumption) | assumption)
                obtain ⟨ad115, e115, hx115_0, hx115_1⟩ := at_T26 (Kd.R_reads' HO_4.out).2.2 x5_2 p115 q115
                cases e115
                replace p115 := eq_true p115
                replace q115 := eq_true q115
                go_upto_region 9 with (first | ((with_reducible refine gate_dst (N := 6) rfl ?_); (try (refine gate_guard (by rfl) ?_; dsimp only)); refine box_event ?hg (N := 6) ?hd (cs := #[.int .i64 0, .string (⟨#[]⟩ : ByteArray)]) (t := 26) ?hr ?_; (case hd => rfl); (case hg => rfl); (case hr => first | (go_simp; done) | (go_simp; rfl)); intro gb116 hg w16 hbox hb; have n0_ := Aside0.mk (Kd.R_below (Kd.R_elderB (by (with_reducible repeat (first | apply Kd.R_alloc | apply Kd.R_drewN | apply Kd.R_drew)); exact HO_4.out) gb116 (Nat.le_of_eq hg.symm)) hb); have n1_ := Aside0.mk (below_step (by repeat (first | (with_reducible first | exact HB.out | apply below_alloc | apply pw_below_drewN | apply below_drew1) | exact HB.out)) hb); have n2_ := Aside0.mk (hbox); have n3_ := Aside0.mk ((by rw [hg]; exact (below_size (by repeat (first | (with_reducible first | exact HB.out | apply below_alloc | apply pw_below_drewN | apply below_drew1) | exact HB.out))) : w.heap.size ≤ gb116)); have n4_ := Aside0.mk ((by rw [hg]; exact (below_size (by repeat (first | (with_reducible first | exact HB.out | apply below_alloc | apply pw_below_drewN | apply below_drew1) | exact HB.out))) : w.heap.size ≤ gb116)); clear HO_4; clear HB; have HO_4 := n0_; have HB := n1_; have BK116 := n2_; have GW116 := n3_; have GE116 := n4_; clear n0_ n1_ n2_ n3_ n4_; clear hb hbox hg; have hcz17_0 : w16.cell? ⟨gb116, 0, none⟩ = some (.int .i64 0) := (blk_cell BK116.out 0).trans rfl; have hcz17_1 : w16.cell? ⟨gb116, 1, none⟩ = some (.string (⟨#[]⟩ : ByteArray)) := (blk_cell BK116.out 1).trans rfl; have hfz17_0 := blk_frozen BK116.out 0; have hfz17_1 := blk_frozen BK116.out 1))
                repeat (go_quiet (first | ((with_reducible refine gate_dst (N := 6) rfl ?_); (try (refine gate_guard (by rfl) ?_; dsimp only)); refine box_event ?hg (N := 6) ?hd (cs := #[.int .i64 0, .string (⟨#[]⟩ : ByteArray)]) (t := 26) ?hr ?_; (case hd => rfl); (case hg => rfl); (case hr => first | (go_simp; done) | (go_simp; rfl)); intro gb116 hg w16 hbox hb; have n0_ := Aside0.mk (Kd.R_below (Kd.R_elderB (by (with_reducible repeat (first | apply Kd.R_alloc | apply Kd.R_drewN | apply Kd.R_drew)); exact HO_4.out) gb116 (Nat.le_of_eq hg.symm)) hb); have n1_ := Aside0.mk (below_step (by repeat (first | (with_reducible first | exact HB.out | apply below_alloc | apply pw_below_drewN | apply below_drew1) | exact HB.out)) hb); have n2_ := Aside0.mk (hbox); have n3_ := Aside0.mk ((by rw [hg]; exact (below_size (by repeat (first | (with_reducible first | exact HB.out | apply below_alloc | apply pw_below_drewN | apply below_drew1) | exact HB.out))) : w.heap.size ≤ gb116)); have n4_ := Aside0.mk ((by rw [hg]; exact (below_size (by repeat (first | (with_reducible first | exact HB.out | apply below_alloc | apply pw_below_drewN | apply below_drew1) | exact HB.out))) : w.heap.size ≤ gb116)); clear HO_4; clear HB; have HO_4 := n0_; have HB := n1_; have BK116 := n2_; have GW116 := n3_; have GE116 := n4_; clear n0_ n1_ n2_ n3_ n4_; clear hb hbox hg; have hcz17_0 : w16.cell? ⟨gb116, 0, none⟩ = some (.int .i64 0) := (blk_cell BK116.out 0).trans rfl; have hcz17_1 : w16.cell? ⟨gb116, 1, none⟩ = some (.string (⟨#[]⟩ : ByteArray)) := (blk_cell BK116.out 1).trans rfl; have hfz17_0 := blk_frozen BK116.out 0; have hfz17_1 := blk_frozen BK116.out 1)); go_upto_region 9 with (first | ((with_reducible refine gate_dst (N := 6) rfl ?_); (try (refine gate_guard (by rfl) ?_; dsimp only)); refine box_event ?hg (N := 6) ?hd (cs := #[.int .i64 0, .string (⟨#[]⟩ : ByteArray)]) (t := 26) ?hr ?_; (case hd => rfl); (case hg => rfl); (case hr => first | (go_simp; done) | (go_simp; rfl)); intro gb116 hg w16 hbox hb; have n0_ := Aside0.mk (Kd.R_below (Kd.R_elderB (by (with_reducible repeat (first | apply Kd.R_alloc | apply Kd.R_drewN | apply Kd.R_drew)); exact HO_4.out) gb116 (Nat.le_of_eq hg.symm)) hb); have n1_ := Aside0.mk (below_step (by repeat (first | (with_reducible first | exact HB.out | apply below_alloc | apply pw_below_drewN | apply below_drew1) | exact HB.out)) hb); have n2_ := Aside0.mk (hbox); have n3_ := Aside0.mk ((by rw [hg]; exact (below_size (by repeat (first | (with_reducible first | exact HB.out | apply below_alloc | apply pw_below_drewN | apply below_drew1) | exact HB.out))) : w.heap.size ≤ gb116)); have n4_ := Aside0.mk ((by rw [hg]; exact (below_size (by repeat (first | (with_reducible first | exact HB.out | apply below_alloc | apply pw_below_drewN | apply below_drew1) | exact HB.out))) : w.heap.size ≤ gb116)); clear HO_4; clear HB; have HO_4 := n0_; have HB := n1_; have BK116 := n2_; have GW116 := n3_; have GE116 := n4_; clear n0_ n1_ n2_ n3_ n4_; clear hb hbox hg; have hcz17_0 : w16.cell? ⟨gb116, 0, none⟩ = some (.int .i64 0) := (blk_cell BK116.out 0).trans rfl; have hcz17_1 : w16.cell? ⟨gb116, 1, none⟩ = some (.string (⟨#[]⟩ : ByteArray)) := (blk_cell BK116.out 1).trans rfl; have hfz17_0 := blk_frozen BK116.out 0; have hfz17_1 := blk_frozen BK116.out 1)))
                (try simp only [Act.put, List.setIfInBounds_toArray, List.set_cons_zero, List.set_cons_succ])
                go_cut [75] (fun v75 wc => ∃ (kq : Nat) (x75_13 : Bool), v75 = .bool x75_13 ∧ Aside0 (tracerylaw01_WordWhole.j2 kq a0 x3_2 t112 x5_2 x75_13 ((rd_T26 t112 x5_2).f0) ((rd_T26 t112 x5_2).f1) = some r) ∧ Aside0 (kq ≤ k2) ∧ Aside0 (Kd.R k26 26 wc w.heap.size (fun k_ => k_ ≠ gb116) (.slice (some ad115) t112.length co15) t112) ∧ Aside0 (wc.heap[gb116]? = some (.cells #[.int .i64 ((rd_T26 t112 x5_2).f0), .string ((rd_T26 t112 x5_2).f1)] 26 (0, 0))) ∧ Aside0 (Below w.heap.size w wc))
                case first =>
                  have H := HC14.out
                  clear HC14
                  by_cases c18 : ((rd_T26 t112 x5_2).f0) < x3_2
                  · rw [if_pos c18] at H
                    have c18b0 : decide (((rd_T26 t112 x5_2).f0) < x3_2) = true := decide_eq_true c18
                    clear c18
                    (first | rw [c18b0] | (simp only [i64_w, i32_w]; rw [c18b0]) | skip)
                    have H' := Aside0.mk H
                    clear H
                    have hcz19_0 : w16.cell? ⟨gb116, 0, none⟩ = some (.int .i64 0) := (blk_cell BK116.out 0).trans rfl
                    have hcz19_1 : w16.cell? ⟨gb116, 1, none⟩ = some (.string (⟨#[]⟩ : ByteArray)) := (blk_cell BK116.out 1).trans rfl
                    have hfz19_0 := blk_frozen BK116.out 0
                    have hfz19_1 := blk_frozen BK116.out 1
                    go_wp2
                    repeat (go_quiet (fail); try go_wp2)
                    go_meet
                    case rel => exact ⟨_, (true), (by first | rfl | (simp; done) | (simp [*]; done)), H', ⟨by have := HJ1.out; have := HK2.out; first | omega | exact Nat.le_refl _⟩, ⟨by (with_reducible repeat (first | apply Kd.R_alloc | apply Kd.R_drewN | apply Kd.R_drew)); exact Kd.R_mono (Kd.R_far (p := ⟨gb116, 1, none⟩) (Kd.R_far (p := ⟨gb116, 0, none⟩) (Kd.R_mono HO_4.out (fun k_ hk => (⟨hk, hk.2⟩ : _ ∧ k_ ≠ gb116))) (fun _ hk => hk.2) (.int .i64 ((rd_T26 t112 x5_2).f0))) (fun _ hk => hk.2) (.string ((rd_T26 t112 x5_2).f1))) (fun _ hk => hk.1.2)⟩, ⟨by (with_reducible repeat (first | refine blk_drewN ?_ _ | refine blk_drew ?_ | refine blk_alloc ?_ _)); refine blk_put (cs := #[.int .i64 ((rd_T26 t112 x5_2).f0), .string (⟨#[]⟩ : ByteArray)]) ?_ 1 _ rfl; (with_reducible repeat (first | refine blk_drewN ?_ _ | refine blk_drew ?_ | refine blk_alloc ?_ _)); refine blk_put (cs := #[.int .i64 0, .string (⟨#[]⟩ : ByteArray)]) ?_ 0 _ rfl; (with_reducible repeat (first | refine blk_drewN ?_ _ | refine blk_drew ?_ | refine blk_alloc ?_ _)); exact BK116.out⟩, ⟨by repeat (first | (with_reducible first | exact HB.out | apply below_alloc | apply pw_below_drewN | apply below_drew1 | refine below_set ?_ GE116.out) | exact HB.out)⟩⟩
                  · rw [if_neg c18] at H
                    have c18b0 : decide (((rd_T26 t112 x5_2).f0) < x3_2) = false := decide_eq_false c18
                    clear c18
                    (first | rw [c18b0] | (simp only [i64_w, i32_w]; rw [c18b0]) | skip)
                    by_cases c20 : (((rd_T26 t112 x5_2).f1).size : Int) = 0
                    · rw [if_pos c20] at H
                      have c20b0 : ((((rd_T26 t112 x5_2).f1).size : Int) == 0) = true := beq_iff_eq.mpr c20
                      have c20b1 : ((((rd_T26 t112 x5_2).f1).size : Int) != 0) = false := bne_eq_false_iff_eq.mpr c20
                      clear c20
                      have H' := Aside0.mk H
                      clear H
                      have hcz21_0 : w16.cell? ⟨gb116, 0, none⟩ = some (.int .i64 0) := (blk_cell BK116.out 0).trans rfl
                      have hcz21_1 : w16.cell? ⟨gb116, 1, none⟩ = some (.string (⟨#[]⟩ : ByteArray)) := (blk_cell BK116.out 1).trans rfl
                      have hfz21_0 := blk_frozen BK116.out 0
                      have hfz21_1 := blk_frozen BK116.out 1
                      go_wp2
                      repeat (go_quiet (fail); try go_wp2)
                      go_meet
                      case rel => exact ⟨_, (true), (by first | rfl | (simp; done) | (simp [*]; done)), H', ⟨by have := HJ1.out; have := HK2.out; first | omega | exact Nat.le_refl _⟩, ⟨by (with_reducible repeat (first | apply Kd.R_alloc | apply Kd.R_drewN | apply Kd.R_drew)); exact Kd.R_mono (Kd.R_far (p := ⟨gb116, 1, none⟩) (Kd.R_far (p := ⟨gb116, 0, none⟩) (Kd.R_mono HO_4.out (fun k_ hk => (⟨hk, hk.2⟩ : _ ∧ k_ ≠ gb116))) (fun _ hk => hk.2) (.int .i64 ((rd_T26 t112 x5_2).f0))) (fun _ hk => hk.2) (.string ((rd_T26 t112 x5_2).f1))) (fun _ hk => hk.1.2)⟩, ⟨by (with_reducible repeat (first | refine blk_drewN ?_ _ | refine blk_drew ?_ | refine blk_alloc ?_ _)); refine blk_put (cs := #[.int .i64 ((rd_T26 t112 x5_2).f0), .string (⟨#[]⟩ : ByteArray)]) ?_ 1 _ rfl; (with_reducible repeat (first | refine blk_drewN ?_ _ | refine blk_drew ?_ | refine blk_alloc ?_ _)); refine blk_put (cs := #[.int .i64 0, .string (⟨#[]⟩ : ByteArray)]) ?_ 0 _ rfl; (with_reducible repeat (first | refine blk_drewN ?_ _ | refine blk_drew ?_ | refine blk_alloc ?_ _)); exact BK116.out⟩, ⟨by repeat (first | (with_reducible first | exact HB.out | apply below_alloc | apply pw_below_drewN | apply below_drew1 | refine below_set ?_ GE116.out) | exact HB.out)⟩⟩
                    · rw [if_neg c20] at H
                      have c20b0 : ((((rd_T26 t112 x5_2).f1).size : Int) == 0) = false := beq_eq_false_iff_ne.mpr c20
                      have c20b1 : ((((rd_T26 t112 x5_2).f1).size : Int) != 0) = true := bne_iff_ne.mpr c20
                      by_cases c22 : (wrap64 (((rd_T26 t112 x5_2).f0) + (((rd_T26 t112 x5_2).f1).size : Int))) > (a0.size : Int)
                      · rw [if_pos c22] at H
                        have c22b0 : decide ((a0.size : Int) < (wrap64 (((rd_T26 t112 x5_2).f0) + (((rd_T26 t112 x5_2).f1).size : Int)))) = true := decide_eq_true c22
                        clear c22
                        have H' := Aside0.mk H
                        clear H
                        have hcz23_0 : w16.cell? ⟨gb116, 0, none⟩ = some (.int .i64 0) := (blk_cell BK116.out 0).trans rfl
                        have hcz23_1 : w16.cell? ⟨gb116, 1, none⟩ = some (.string (⟨#[]⟩ : ByteArray)) := (blk_cell BK116.out 1).trans rfl
                        have hfz23_0 := blk_frozen BK116.out 0
                        have hfz23_1 := blk_frozen BK116.out 1
                        go_wp2
                        repeat (go_quiet (fail); try go_wp2)
                        go_meet
                        case rel => exact ⟨_, (true), (by first | rfl | (simp; done) | (simp [*]; done)), H', ⟨by have := HJ1.out; have := HK2.out; first | omega | exact Nat.le_refl _⟩, ⟨by (with_reducible repeat (first | apply Kd.R_alloc | apply Kd.R_drewN | apply Kd.R_drew)); exact Kd.R_mono (Kd.R_far (p := ⟨gb116, 1, none⟩) (Kd.R_far (p := ⟨gb116, 0, none⟩) (Kd.R_mono HO_4.out (fun k_ hk => (⟨hk, hk.2⟩ : _ ∧ k_ ≠ gb116))) (fun _ hk => hk.2) (.int .i64 ((rd_T26 t112 x5_2).f0))) (fun _ hk => hk.2) (.string ((rd_T26 t112 x5_2).f1))) (fun _ hk => hk.1.2)⟩, ⟨by (with_reducible repeat (first | refine blk_drewN ?_ _ | refine blk_drew ?_ | refine blk_alloc ?_ _)); refine blk_put (cs := #[.int .i64 ((rd_T26 t112 x5_2).f0), .string (⟨#[]⟩ : ByteArray)]) ?_ 1 _ rfl; (with_reducible repeat (first | refine blk_drewN ?_ _ | refine blk_drew ?_ | refine blk_alloc ?_ _)); refine blk_put (cs := #[.int .i64 0, .string (⟨#[]⟩ : ByteArray)]) ?_ 0 _ rfl; (with_reducible repeat (first | refine blk_drewN ?_ _ | refine blk_drew ?_ | refine blk_alloc ?_ _)); exact BK116.out⟩, ⟨by repeat (first | (with_reducible first | exact HB.out | apply below_alloc | apply pw_below_drewN | apply below_drew1 | refine below_set ?_ GE116.out) | exact HB.out)⟩⟩
                      · rw [if_neg c22] at H
                        have c22b0 : decide ((a0.size : Int) < (wrap64 (((rd_T26 t112 x5_2).f0) + (((rd_T26 t112 x5_2).f1).size : Int)))) = false := decide_eq_false c22
                        clear c22
                        by_cases c24 : 0 ≤ ((rd_T26 t112 x5_2).f0)
                        · rw [if_pos c24] at H
                          have c24b0 := eq_true c24
                          have c24b1 : decide (0 ≤ ((rd_T26 t112 x5_2).f0)) = true := decide_eq_true c24
                          clear c24
                          by_cases c25 : ((rd_T26 t112 x5_2).f0) ≤ (wrap64 (((rd_T26 t112 x5_2).f0) + (((rd_T26 t112 x5_2).f1).size : Int)))
                          · rw [if_pos c25] at H
                            have c25b0 := eq_true c25
                            have c25b1 : decide (((rd_T26 t112 x5_2).f0) ≤ (wrap64 (((rd_T26 t112 x5_2).f0) + (((rd_T26 t112 x5_2).f1).size : Int)))) = true := decide_eq_true c25
                            by_cases c26 : (wrap64 (((rd_T26 t112 x5_2).f0) + (((rd_T26 t112 x5_2).f1).size : Int))) ≤ (a0.size : Int)
                            · rw [if_pos c26] at H
                              have c26b0 := eq_true c26
                              have c26b1 : decide ((wrap64 (((rd_T26 t112 x5_2).f0) + (((rd_T26 t112 x5_2).f1).size : Int))) ≤ (a0.size : Int)) = true := decide_eq_true c26
                              by_cases c27 : (a0.extract (((rd_T26 t112 x5_2).f0) : Int).toNat ((wrap64 (((rd_T26 t112 x5_2).f0) + (((rd_T26 t112 x5_2).f1).size : Int))) : Int).toNat).toList = ((rd_T26 t112 x5_2).f1).toList
                              · rw [if_pos c27] at H
                                have c27b0 : ((a0.extract (((rd_T26 t112 x5_2).f0) : Int).toNat ((wrap64 (((rd_T26 t112 x5_2).f0) + (((rd_T26 t112 x5_2).f1).size : Int))) : Int).toNat).toList == ((rd_T26 t112 x5_2).f1).toList) = true := beq_iff_eq.mpr c27
                                have c27b1 : ((a0.extract (((rd_T26 t112 x5_2).f0) : Int).toNat ((wrap64 (((rd_T26 t112 x5_2).f0) + (((rd_T26 t112 x5_2).f1).size : Int))) : Int).toNat).toList != ((rd_T26 t112 x5_2).f1).toList) = false := bne_eq_false_iff_eq.mpr c27
                                clear c27
                                by_cases c28 : x5_2 > 0
                                · rw [if_pos c28] at H
                                  have c28b0 : decide (0 < x5_2) = true := decide_eq_true c28
                                  clear c28
                                  have H' := Aside0.mk H
                                  clear H
                                  have hcz29_0 : w16.cell? ⟨gb116, 0, none⟩ = some (.int .i64 0) := (blk_cell BK116.out 0).trans rfl
                                  have hcz29_1 : w16.cell? ⟨gb116, 1, none⟩ = some (.string (⟨#[]⟩ : ByteArray)) := (blk_cell BK116.out 1).trans rfl
                                  have hfz29_0 := blk_frozen BK116.out 0
                                  have hfz29_1 := blk_frozen BK116.out 1
                                  go_wp2
                                  repeat (go_quiet (fail); try go_wp2)
                                  go_meet
                                  case rel => exact ⟨_, ((((rd_T26 t112 x5_2).f0) == x3_2)), (by first | rfl | (simp; done) | (simp [*]; done)), H', ⟨by have := HJ1.out; have := HK2.out; first | omega | exact Nat.le_refl _⟩, ⟨by (with_reducible repeat (first | apply Kd.R_alloc | apply Kd.R_drewN | apply Kd.R_drew)); exact Kd.R_mono (Kd.R_far (p := ⟨gb116, 1, none⟩) (Kd.R_far (p := ⟨gb116, 0, none⟩) (Kd.R_mono HO_4.out (fun k_ hk => (⟨hk, hk.2⟩ : _ ∧ k_ ≠ gb116))) (fun _ hk => hk.2) (.int .i64 ((rd_T26 t112 x5_2).f0))) (fun _ hk => hk.2) (.string ((rd_T26 t112 x5_2).f1))) (fun _ hk => hk.1.2)⟩, ⟨by (with_reducible repeat (first | refine blk_drewN ?_ _ | refine blk_drew ?_ | refine blk_alloc ?_ _)); refine blk_put (cs := #[.int .i64 ((rd_T26 t112 x5_2).f0), .string (⟨#[]⟩ : ByteArray)]) ?_ 1 _ rfl; (with_reducible repeat (first | refine blk_drewN ?_ _ | refine blk_drew ?_ | refine blk_alloc ?_ _)); refine blk_put (cs := #[.int .i64 0, .string (⟨#[]⟩ : ByteArray)]) ?_ 0 _ rfl; (with_reducible repeat (first | refine blk_drewN ?_ _ | refine blk_drew ?_ | refine blk_alloc ?_ _)); exact BK116.out⟩, ⟨by repeat (first | (with_reducible first | exact HB.out | apply below_alloc | apply pw_below_drewN | apply below_drew1 | refine below_set ?_ GE116.out) | exact HB.out)⟩⟩
                                · rw [if_neg c28] at H
                                  have c28b0 : decide (0 < x5_2) = false := decide_eq_false c28
                                  clear c28
                                  have H' := Aside0.mk H
                                  clear H
                                  have hcz30_0 : w16.cell? ⟨gb116, 0, none⟩ = some (.int .i64 0) := (blk_cell BK116.out 0).trans rfl
                                  have hcz30_1 : w16.cell? ⟨gb116, 1, none⟩ = some (.string (⟨#[]⟩ : ByteArray)) := (blk_cell BK116.out 1).trans rfl
                                  have hfz30_0 := blk_frozen BK116.out 0
                                  have hfz30_1 := blk_frozen BK116.out 1
                                  go_wp2
                                  repeat (go_quiet (fail); try go_wp2)
                                  go_meet
                                  case rel => exact ⟨_, (false), (by first | rfl | (simp; done) | (simp [*]; done)), H', ⟨by have := HJ1.out; have := HK2.out; first | omega | exact Nat.le_refl _⟩, ⟨by (with_reducible repeat (first | apply Kd.R_alloc | apply Kd.R_drewN | apply Kd.R_drew)); exact Kd.R_mono (Kd.R_far (p := ⟨gb116, 1, none⟩) (Kd.R_far (p := ⟨gb116, 0, none⟩) (Kd.R_mono HO_4.out (fun k_ hk => (⟨hk, hk.2⟩ : _ ∧ k_ ≠ gb116))) (fun _ hk => hk.2) (.int .i64 ((rd_T26 t112 x5_2).f0))) (fun _ hk => hk.2) (.string ((rd_T26 t112 x5_2).f1))) (fun _ hk => hk.1.2)⟩, ⟨by (with_reducible repeat (first | refine blk_drewN ?_ _ | refine blk_drew ?_ | refine blk_alloc ?_ _)); refine blk_put (cs := #[.int .i64 ((rd_T26 t112 x5_2).f0), .string (⟨#[]⟩ : ByteArray)]) ?_ 1 _ rfl; (with_reducible repeat (first | refine blk_drewN ?_ _ | refine blk_drew ?_ | refine blk_alloc ?_ _)); refine blk_put (cs := #[.int .i64 0, .string (⟨#[]⟩ : ByteArray)]) ?_ 0 _ rfl; (with_reducible repeat (first | refine blk_drewN ?_ _ | refine blk_drew ?_ | refine blk_alloc ?_ _)); exact BK116.out⟩, ⟨by repeat (first | (with_reducible first | exact HB.out | apply below_alloc | apply pw_below_drewN | apply below_drew1 | refine below_set ?_ GE116.out) | exact HB.out)⟩⟩
                              · rw [if_neg c27] at H
                                have c27b0 : ((a0.extract (((rd_T26 t112 x5_2).f0) : Int).toNat ((wrap64 (((rd_T26 t112 x5_2).f0) + (((rd_T26 t112 x5_2).f1).size : Int))) : Int).toNat).toList == ((rd_T26 t112 x5_2).f1).toList) = false := beq_eq_false_iff_ne.mpr c27
                                have c27b1 : ((a0.extract (((rd_T26 t112 x5_2).f0) : Int).toNat ((wrap64 (((rd_T26 t112 x5_2).f0) + (((rd_T26 t112 x5_2).f1).size : Int))) : Int).toNat).toList != ((rd_T26 t112 x5_2).f1).toList) = true := bne_iff_ne.mpr c27
                                have H' := Aside0.mk H
                                clear H
                                have hcz31_0 : w16.cell? ⟨gb116, 0, none⟩ = some (.int .i64 0) := (blk_cell BK116.out 0).trans rfl
                                have hcz31_1 : w16.cell? ⟨gb116, 1, none⟩ = some (.string (⟨#[]⟩ : ByteArray)) := (blk_cell BK116.out 1).trans rfl
                                have hfz31_0 := blk_frozen BK116.out 0
                                have hfz31_1 := blk_frozen BK116.out 1
                                go_wp2
                                repeat (go_quiet (fail); try go_wp2)
                                go_meet
                                case rel => exact ⟨_, (true), (by first | rfl | (simp; done) | (simp [*]; done)), H', ⟨by have := HJ1.out; have := HK2.out; first | omega | exact Nat.le_refl _⟩, ⟨by (with_reducible repeat (first | apply Kd.R_alloc | apply Kd.R_drewN | apply Kd.R_drew)); exact Kd.R_mono (Kd.R_far (p := ⟨gb116, 1, none⟩) (Kd.R_far (p := ⟨gb116, 0, none⟩) (Kd.R_mono HO_4.out (fun k_ hk => (⟨hk, hk.2⟩ : _ ∧ k_ ≠ gb116))) (fun _ hk => hk.2) (.int .i64 ((rd_T26 t112 x5_2).f0))) (fun _ hk => hk.2) (.string ((rd_T26 t112 x5_2).f1))) (fun _ hk => hk.1.2)⟩, ⟨by (with_reducible repeat (first | refine blk_drewN ?_ _ | refine blk_drew ?_ | refine blk_alloc ?_ _)); refine blk_put (cs := #[.int .i64 ((rd_T26 t112 x5_2).f0), .string (⟨#[]⟩ : ByteArray)]) ?_ 1 _ rfl; (with_reducible repeat (first | refine blk_drewN ?_ _ | refine blk_drew ?_ | refine blk_alloc ?_ _)); refine blk_put (cs := #[.int .i64 0, .string (⟨#[]⟩ : ByteArray)]) ?_ 0 _ rfl; (with_reducible repeat (first | refine blk_drewN ?_ _ | refine blk_drew ?_ | refine blk_alloc ?_ _)); exact BK116.out⟩, ⟨by repeat (first | (with_reducible first | exact HB.out | apply below_alloc | apply pw_below_drewN | apply below_drew1 | refine below_set ?_ GE116.out) | exact HB.out)⟩⟩
                            · rw [if_neg c26] at H
                              exact absurd H (by simp)
                          · rw [if_neg c25] at H
                            exact absurd H (by simp)
                        · rw [if_neg c24] at H
                          exact absurd H (by simp)
                case rest =>
                  clear HC14
                  try clear c1
                  try clear p1
                  try clear q1
                  try clear hx1
                  try clear c2
                  try clear p2
                  try clear c3
                  try clear c4
                  try clear p6
                  try clear c7
                  try clear p11
                  try clear q11
                  try clear hx11
                  try clear c12
                  try clear c12b0
                  try clear c13
                  try clear c13b0
                  try clear c18
                  try clear c18b0
                  try clear c20
                  try clear c20b0
                  try clear c20b1
                  try clear c22
                  try clear c22b0
                  try clear c24
                  try clear c24b0
                  try clear c24b1
                  try clear c25
                  try clear c25b0
                  try clear c25b1
                  try clear c26
                  try clear c26b0
                  try clear c26b1
                  try clear c27
                  try clear c27b0
                  try clear c27b1
                  try clear c28
                  try clear c28b0
                  try clear hcz17_0
                  try clear hcz17_1
                  try clear hcz19_0
                  try clear hcz19_1
                  try clear hcz21_0
                  try clear hcz21_1
                  try clear hcz23_0
                  try clear hcz23_1
                  try clear hcz29_0
                  try clear hcz29_1
                  try clear hcz30_0
                  try clear hcz30_1
                  try clear hcz31_0
                  try clear hcz31_1
                  try clear hfz17_0
                  try clear hfz17_1
                  try clear hfz19_0
                  try clear hfz19_1
                  try clear hfz21_0
                  try clear hfz21_1
                  try clear hfz23_0
                  try clear hfz23_1
                  try clear hfz29_0
                  try clear hfz29_1
                  try clear hfz30_0
                  try clear hfz30_1
                  try clear hfz31_0
                  try clear hfz31_1
                  try clear hx115_0
                  try clear hx115_1
                  try clear p115
                  try clear p2
                  try clear q115
                  obtain ⟨kq, x75_13, rfl, HA, HJ13, HO_4, BK116, HB⟩ := hcut
                  cases kq with
                  | zero => exact absurd HA.out (by simp [tracerylaw01_WordWhole.j2])
                  | succ kj13 =>
                    have H := HA.out
                    clear HA
                    simp only [tracerylaw01_WordWhole.j2] at H
                    by_cases c32 : x75_13 = true
                    · subst c32
                      have H1 : (some false) = some r := by rw [if_pos rfl] at H; exact H
                      clear H
                      have H := H1
                      clear H1
                      obtain rfl := Option.some.inj H
                      go_wp2
                      repeat (go_quiet (fail); try go_wp2)
                      go_ret
                      exact ⟨by first | rfl | trivial | (simp [errW_none, errW_some] <;> rfl) | (simp [*, errW_none, errW_some] <;> rfl), by repeat (first | (with_reducible first | exact HB.out | apply below_alloc | apply pw_below_drewN | apply below_drew1 | refine below_set ?_ GE116.out) | exact HB.out)⟩
                    · replace c32 := Bool.eq_false_iff.mpr c32
                      subst c32
                      have H1 : (tracerylaw01_WordWhole.l1 kj13 a0 t112 x5_2 x3_2 ((rd_T26 t112 x5_2).f0) ((rd_T26 t112 x5_2).f1)) = some r := by rw [if_neg (show ¬ (false = true) by decide)] at H; exact H
                      clear H
                      have H := H1
                      clear H1
                      have H' := Aside0.mk H
                      clear H
                      go_wp2
                      repeat (go_quiet (fail); try go_wp2)
                      go_loopg [7] kj13 (fun kq v7 w' => ∃ (x7_4 : Int), v7 = .int .i64 x7_4 ∧ Aside0 (tracerylaw01_WordWhole.l1 kq a0 t112 x5_2 x7_4 ((rd_T26 t112 x5_2).f0) ((rd_T26 t112 x5_2).f1) = some r) ∧ Aside0 (kq ≤ kj13) ∧ Aside0 (Kd.R k26 26 w' w.heap.size (fun k_ => k_ ≠ gb116) (.slice (some ad115) t112.length co15) t112) ∧ Aside0 (w'.heap[gb116]? = some (.cells #[.int .i64 ((rd_T26 t112 x5_2).f0), .string ((rd_T26 t112 x5_2).f1)] 26 (0, 0))) ∧ Aside0 (Below w.heap.size w w'))
                      case atStart => exact ⟨(x3_2), (by first | rfl | (simp; done) | (simp [*]; done)), H', ⟨Nat.le_refl _⟩, ⟨by (with_reducible repeat (first | apply Kd.R_alloc | apply Kd.R_drewN | apply Kd.R_drew)); exact HO_4.out⟩, ⟨by (with_reducible repeat (first | refine blk_drewN ?_ _ | refine blk_drew ?_ | refine blk_alloc ?_ _)); exact BK116.out⟩, ⟨by repeat (first | (with_reducible first | exact HB.out | apply below_alloc | apply pw_below_drewN | apply below_drew1 | refine below_set ?_ GE116.out) | exact HB.out)⟩⟩
                      case round =>
                        clear H'
                        try clear c1
                        try clear p1
                        try clear q1
                        try clear hx1
                        try clear c2
                        try clear p2
                        try clear c3
                        try clear c4
                        try clear p6
                        try clear c7
                        try clear p11
                        try clear q11
                        try clear hx11
                        try clear c12
                        try clear c12b0
                        try clear c13
                        try clear c13b0
                        try clear c18
                        try clear c18b0
                        try clear c20
                        try clear c20b0
                        try clear c20b1
                        try clear c22
                        try clear c22b0
                        try clear c24
                        try clear c24b0
                        try clear c24b1
                        try clear c25
                        try clear c25b0
                        try clear c25b1
                        try clear c26
                        try clear c26b0
                        try clear c26b1
                        try clear c27
                        try clear c27b0
                        try clear c27b1
                        try clear c28
                        try clear c28b0
                        try clear c32
                        try clear hcz17_0
                        try clear hcz17_1
                        try clear hcz19_0
                        try clear hcz19_1
                        try clear hcz21_0
                        try clear hcz21_1
                        try clear hcz23_0
                        try clear hcz23_1
                        try clear hcz29_0
                        try clear hcz29_1
                        try clear hcz30_0
                        try clear hcz30_1
                        try clear hcz31_0
                        try clear hcz31_1
                        try clear hfz17_0
                        try clear hfz17_1
                        try clear hfz19_0
                        try clear hfz19_1
                        try clear hfz21_0
                        try clear hfz21_1
                        try clear hfz23_0
                        try clear hfz23_1
                        try clear hfz29_0
                        try clear hfz29_1
                        try clear hfz30_0
                        try clear hfz30_1
                        try clear hfz31_0
                        try clear hfz31_1
                        try clear hx115_0
                        try clear hx115_1
                        try clear p1
                        try clear p11
                        try clear p115
                        try clear p2
                        try clear p6
                        try clear q1
                        try clear q11
                        try clear q115
                        obtain ⟨x7_4, rfl, HA, HK4, HO_4, BK116, HB⟩ := hrel
                        cases gk with
                        | zero => exact absurd HA.out (by simp [tracerylaw01_WordWhole.l1])
                        | succ k4 =>
                          have H := HA.out
                          clear HA
                          simp only [tracerylaw01_WordWhole.l1] at H
                          by_cases c33 : x7_4 < ((rd_T26 t112 x5_2).f0)
                          · rw [if_pos c33] at H
                            have c33b0 : decide (x7_4 < ((rd_T26 t112 x5_2).f0)) = true := decide_eq_true c33
                            clear c33
                            by_cases c34 : 0 ≤ x7_4
                            · rw [if_pos c34] at H
                              have c34b0 : decide (0 ≤ x7_4) = true := decide_eq_true c34
                              clear c34
                              by_cases c35 : x7_4 < (a0.size : Int)
                              · rw [if_pos c35] at H
                                have c35b0 : decide (x7_4 < (a0.size : Int)) = true := decide_eq_true c35
                                clear c35
                                by_cases c37 : (bt a0 x7_4) = 32
                                · rw [if_pos c37] at H
                                  have c37b0 : ((bt a0 x7_4) == 32) = true := beq_iff_eq.mpr c37
                                  have c37b1 : ((bt a0 x7_4) != 32) = false := bne_eq_false_iff_eq.mpr c37
                                  clear c37
                                  have H' := Aside0.mk H
                                  clear H
                                  have hcz38_0 : wr.cell? ⟨gb116, 0, none⟩ = some (.int .i64 ((rd_T26 t112 x5_2).f0)) := (blk_cell BK116.out 0).trans rfl
                                  have hcz38_1 : wr.cell? ⟨gb116, 1, none⟩ = some (.string ((rd_T26 t112 x5_2).f1)) := (blk_cell BK116.out 1).trans rfl
                                  have hfz38_0 := blk_frozen BK116.out 0
                                  have hfz38_1 := blk_frozen BK116.out 1
                                  have p36 : 0 ≤ (x7_4 : Int) := of_decide_eq_true (by first | (with_reducible assumption) | assumption)
                                  have q36 : x7_4 < (a0.size : Int) := of_decide_eq_true (by first | (with_reducible assumption) | assumption)
                                  have hx36 := bt_at a0 x7_4
                                  replace p36 := eq_true p36
                                  replace q36 := eq_true q36
                                  go_wp2
                                  repeat (go_quiet (fail); try go_wp2)
                                  go_roundg k4
                                  case measure => have := HJ1.out; have := HK2.out; have := HJ13.out; have := HK4.out; omega
                                  case rel => exact ⟨(wrap64 (x7_4 + 1)), (by first | rfl | (simp; done) | (simp [*]; done)), H', ⟨by have := HJ1.out; have := HK2.out; have := HJ13.out; have := HK4.out; omega⟩, ⟨by (with_reducible repeat (first | apply Kd.R_alloc | apply Kd.R_drewN | apply Kd.R_drew)); exact HO_4.out⟩, ⟨by (with_reducible repeat (first | refine blk_drewN ?_ _ | refine blk_drew ?_ | refine blk_alloc ?_ _)); exact BK116.out⟩, ⟨by repeat (first | (with_reducible first | exact HB.out | apply below_alloc | apply pw_below_drewN | apply below_drew1 | refine below_set ?_ GE116.out) | exact HB.out)⟩⟩
                                · rw [if_neg c37] at H
                                  have c37b0 : ((bt a0 x7_4) == 32) = false := beq_eq_false_iff_ne.mpr c37
                                  have c37b1 : ((bt a0 x7_4) != 32) = true := bne_iff_ne.mpr c37
                                  obtain rfl := Option.some.inj H
                                  have hcz39_0 : wr.cell? ⟨gb116, 0, none⟩ = some (.int .i64 ((rd_T26 t112 x5_2).f0)) := (blk_cell BK116.out 0).trans rfl
                                  have hcz39_1 : wr.cell? ⟨gb116, 1, none⟩ = some (.string ((rd_T26 t112 x5_2).f1)) := (blk_cell BK116.out 1).trans rfl
                                  have hfz39_0 := blk_frozen BK116.out 0
                                  have hfz39_1 := blk_frozen BK116.out 1
                                  have p36 : 0 ≤ (x7_4 : Int) := of_decide_eq_true (by first | (with_reducible assumption) | assumption)
                                  have q36 : x7_4 < (a0.size : Int) := of_decide_eq_true (by first | (with_reducible assumption) | assumption)
                                  have hx36 := bt_at a0 x7_4
                                  replace p36 := eq_true p36
                                  replace q36 := eq_true q36
                                  go_wp2
                                  repeat (go_quiet (fail); try go_wp2)
                                  go_ret
                                  exact ⟨by first | rfl | trivial | (simp [errW_none, errW_some] <;> rfl) | (simp [*, errW_none, errW_some] <;> rfl), by repeat (first | (with_reducible first | exact HB.out | apply below_alloc | apply pw_below_drewN | apply below_drew1 | refine below_set ?_ GE116.out) | exact HB.out)⟩
                              · rw [if_neg c35] at H
                                exact absurd H (by simp)
                            · rw [if_neg c34] at H
                              exact absurd H (by simp)
                          · rw [if_neg c33] at H
                            have c33b0 : decide (x7_4 < ((rd_T26 t112 x5_2).f0)) = false := decide_eq_false c33
                            clear c33
                            have H' := Aside0.mk H
                            clear H
                            have hcz40_0 : wr.cell? ⟨gb116, 0, none⟩ = some (.int .i64 ((rd_T26 t112 x5_2).f0)) := (blk_cell BK116.out 0).trans rfl
                            have hcz40_1 : wr.cell? ⟨gb116, 1, none⟩ = some (.string ((rd_T26 t112 x5_2).f1)) := (blk_cell BK116.out 1).trans rfl
                            have hfz40_0 := blk_frozen BK116.out 0
                            have hfz40_1 := blk_frozen BK116.out 1
                            go_wp2
                            repeat (go_quiet (fail); try go_wp2)
                            go_loopg [8] k4 (fun kq v8 w' => ∃ (x8_5 : Int), v8 = .int .i64 x8_5 ∧ Aside0 (tracerylaw01_WordWhole.l2 kq a0 t112 x5_2 x8_5 ((rd_T26 t112 x5_2).f0) ((rd_T26 t112 x5_2).f1) = some r) ∧ Aside0 (kq ≤ k4) ∧ Aside0 (Kd.R k26 26 w' w.heap.size (fun k_ => k_ ≠ gb116) (.slice (some ad115) t112.length co15) t112) ∧ Aside0 (w'.heap[gb116]? = some (.cells #[.int .i64 ((rd_T26 t112 x5_2).f0), .string ((rd_T26 t112 x5_2).f1)] 26 (0, 0))) ∧ Aside0 (Below w.heap.size w w'))
                            case atStart => exact ⟨(0), (by first | rfl | (simp; done) | (simp [*]; done)), H', ⟨Nat.le_refl _⟩, ⟨by (with_reducible repeat (first | apply Kd.R_alloc | apply Kd.R_drewN | apply Kd.R_drew)); exact HO_4.out⟩, ⟨by (with_reducible repeat (first | refine blk_drewN ?_ _ | refine blk_drew ?_ | refine blk_alloc ?_ _)); exact BK116.out⟩, ⟨by repeat (first | (with_reducible first | exact HB.out | apply below_alloc | apply pw_below_drewN | apply below_drew1 | refine below_set ?_ GE116.out) | exact HB.out)⟩⟩
                            case round =>
                              clear H'
                              try clear c1
                              try clear p1
                              try clear q1
                              try clear hx1
                              try clear c2
                              try clear p2
                              try clear c3
                              try clear p3
                              try clear q3
                              try clear hx3
                              try clear c4
                              try clear p6
                              try clear c7
                              try clear p11
                              try clear q11
                              try clear hx11
                              try clear c12
                              try clear c12b0
                              try clear c13
                              try clear c13b0
                              try clear c18
                              try clear c18b0
                              try clear c20
                              try clear c20b0
                              try clear c20b1
                              try clear c22
                              try clear c22b0
                              try clear c24
                              try clear c24b0
                              try clear c24b1
                              try clear c25
                              try clear c25b0
                              try clear c25b1
                              try clear c26
                              try clear c26b0
                              try clear c26b1
                              try clear c27
                              try clear c27b0
                              try clear c27b1
                              try clear c28
                              try clear c28b0
                              try clear c32
                              try clear c33
                              try clear c33b0
                              try clear c34
                              try clear c34b0
                              try clear c35
                              try clear c35b0
                              try clear p36
                              try clear q36
                              try clear hx36
                              try clear c37
                              try clear c37b0
                              try clear c37b1
                              try clear hcz17_0
                              try clear hcz17_1
                              try clear hcz19_0
                              try clear hcz19_1
                              try clear hcz21_0
                              try clear hcz21_1
                              try clear hcz23_0
                              try clear hcz23_1
                              try clear hcz29_0
                              try clear hcz29_1
                              try clear hcz30_0
                              try clear hcz30_1
                              try clear hcz31_0
                              try clear hcz31_1
                              try clear hcz38_0
                              try clear hcz38_1
                              try clear hcz39_0
                              try clear hcz39_1
                              try clear hcz40_0
                              try clear hcz40_1
                              try clear hfz17_0
                              try clear hfz17_1
                              try clear hfz19_0
                              try clear hfz19_1
                              try clear hfz21_0
                              try clear hfz21_1
                              try clear hfz23_0
                              try clear hfz23_1
                              try clear hfz29_0
                              try clear hfz29_1
                              try clear hfz30_0
                              try clear hfz30_1
                              try clear hfz31_0
                              try clear hfz31_1
                              try clear hfz38_0
                              try clear hfz38_1
                              try clear hfz39_0
                              try clear hfz39_1
                              try clear hfz40_0
                              try clear hfz40_1
                              try clear hx115_0
                              try clear hx115_1
                              try clear p1
                              try clear p11
                              try clear p115
                              try clear p2
                              try clear p36
                              try clear p6
                              try clear q1
                              try clear q11
                              try clear q115
                              try clear q36
                              obtain ⟨x8_5, rfl, HA, HK5, HO_4, BK116, HB⟩ := hrel
                              cases gk with
                              | zero => exact absurd HA.out (by simp [tracerylaw01_WordWhole.l2])
                              | succ k5 =>
                                have H := HA.out
                                clear HA
                                simp only [tracerylaw01_WordWhole.l2] at H
                                by_cases c41 : x8_5 < (((rd_T26 t112 x5_2).f1).size : Int)
                                · rw [if_pos c41] at H
                                  have c41b0 : decide (x8_5 < (((rd_T26 t112 x5_2).f1).size : Int)) = true := decide_eq_true c41
                                  clear c41
                                  by_cases c42 : 0 ≤ x8_5
                                  · rw [if_pos c42] at H
                                    have c42b0 : decide (0 ≤ x8_5) = true := decide_eq_true c42
                                    clear c42
                                    by_cases c44 : (bt ((rd_T26 t112 x5_2).f1) x8_5) = 32
                                    · rw [if_pos c44] at H
                                      have c44b0 : ((bt ((rd_T26 t112 x5_2).f1) x8_5) == 32) = true := beq_iff_eq.mpr c44
                                      have c44b1 : ((bt ((rd_T26 t112 x5_2).f1) x8_5) != 32) = false := bne_eq_false_iff_eq.mpr c44
                                      clear c44
                                      obtain rfl := Option.some.inj H
                                      have hcz45_0 : wr.cell? ⟨gb116, 0, none⟩ = some (.int .i64 ((rd_T26 t112 x5_2).f0)) := (blk_cell BK116.out 0).trans rfl
                                      have hcz45_1 : wr.cell? ⟨gb116, 1, none⟩ = some (.string ((rd_T26 t112 x5_2).f1)) := (blk_cell BK116.out 1).trans rfl
                                      have hfz45_0 := blk_frozen BK116.out 0
                                      have hfz45_1 := blk_frozen BK116.out 1
                                      have p43 : 0 ≤ (x8_5 : Int) := of_decide_eq_true (by first | (with_reducible assumption) | assumption)
                                      have q43 : x8_5 < (((rd_T26 t112 x5_2).f1).size : Int) := of_decide_eq_true (by first | (with_reducible assumption) | assumption)
                                      have hx43 := bt_at ((rd_T26 t112 x5_2).f1) x8_5
                                      replace p43 := eq_true p43
                                      replace q43 := eq_true q43
                                      go_wp2
                                      repeat (go_quiet (fail); try go_wp2)
                                      go_ret
                                      exact ⟨by first | rfl | trivial | (simp [errW_none, errW_some] <;> rfl) | (simp [*, errW_none, errW_some] <;> rfl), by repeat (first | (with_reducible first | exact HB.out | apply below_alloc | apply pw_below_drewN | apply below_drew1 | refine below_set ?_ GE116.out) | exact HB.out)⟩
                                    · rw [if_neg c44] at H
                                      have c44b0 : ((bt ((rd_T26 t112 x5_2).f1) x8_5) == 32) = false := beq_eq_false_iff_ne.mpr c44
                                      have c44b1 : ((bt ((rd_T26 t112 x5_2).f1) x8_5) != 32) = true := bne_iff_ne.mpr c44
                                      have H' := Aside0.mk H
                                      clear H
                                      have hcz46_0 : wr.cell? ⟨gb116, 0, none⟩ = some (.int .i64 ((rd_T26 t112 x5_2).f0)) := (blk_cell BK116.out 0).trans rfl
                                      have hcz46_1 : wr.cell? ⟨gb116, 1, none⟩ = some (.string ((rd_T26 t112 x5_2).f1)) := (blk_cell BK116.out 1).trans rfl
                                      have hfz46_0 := blk_frozen BK116.out 0
                                      have hfz46_1 := blk_frozen BK116.out 1
                                      have p43 : 0 ≤ (x8_5 : Int) := of_decide_eq_true (by first | (with_reducible assumption) | assumption)
                                      have q43 : x8_5 < (((rd_T26 t112 x5_2).f1).size : Int) := of_decide_eq_true (by first | (with_reducible assumption) | assumption)
                                      have hx43 := bt_at ((rd_T26 t112 x5_2).f1) x8_5
                                      replace p43 := eq_true p43
                                      replace q43 := eq_true q43
                                      go_wp2
                                      repeat (go_quiet (fail); try go_wp2)
                                      go_roundg k5
                                      case measure => have := HJ1.out; have := HK2.out; have := HJ13.out; have := HK4.out; have := HK5.out; omega
                                      case rel => exact ⟨(wrap64 (x8_5 + 1)), (by first | rfl | (simp; done) | (simp [*]; done)), H', ⟨by have := HJ1.out; have := HK2.out; have := HJ13.out; have := HK4.out; have := HK5.out; omega⟩, ⟨by (with_reducible repeat (first | apply Kd.R_alloc | apply Kd.R_drewN | apply Kd.R_drew)); exact HO_4.out⟩, ⟨by (with_reducible repeat (first | refine blk_drewN ?_ _ | refine blk_drew ?_ | refine blk_alloc ?_ _)); exact BK116.out⟩, ⟨by repeat (first | (with_reducible first | exact HB.out | apply below_alloc | apply pw_below_drewN | apply below_drew1 | refine below_set ?_ GE116.out) | exact HB.out)⟩⟩
                                  · rw [if_neg c42] at H
                                    exact absurd H (by simp)
                                · rw [if_neg c41] at H
                                  have c41b0 : decide (x8_5 < (((rd_T26 t112 x5_2).f1).size : Int)) = false := decide_eq_false c41
                                  clear c41
                                  have H' := Aside0.mk H
                                  clear H
                                  have hcz47_0 : wr.cell? ⟨gb116, 0, none⟩ = some (.int .i64 ((rd_T26 t112 x5_2).f0)) := (blk_cell BK116.out 0).trans rfl
                                  have hcz47_1 : wr.cell? ⟨gb116, 1, none⟩ = some (.string ((rd_T26 t112 x5_2).f1)) := (blk_cell BK116.out 1).trans rfl
                                  have hfz47_0 := blk_frozen BK116.out 0
                                  have hfz47_1 := blk_frozen BK116.out 1
                                  go_wp2
                                  repeat (go_quiet (fail); try go_wp2)
                                  go_roundg k5
                                  case measure => have := HJ1.out; have := HK2.out; have := HJ13.out; have := HK4.out; have := HK5.out; omega
                                  case rel => exact ⟨(wrap64 (((rd_T26 t112 x5_2).f0) + (((rd_T26 t112 x5_2).f1).size : Int))), (wrap64 (x5_2 + 1)), (by first | rfl | (simp; done) | (simp [*]; done)), (by first | rfl | (simp; done) | (simp [*]; done)), H', ⟨by have := HJ1.out; have := HK2.out; have := HJ13.out; have := HK4.out; have := HK5.out; omega⟩, ⟨by (with_reducible repeat (first | apply Kd.R_alloc | apply Kd.R_drewN | apply Kd.R_drew)); exact Kd.R_mono HO_4.out (fun _ hk => trivial)⟩, ⟨by repeat (first | (with_reducible first | exact HB.out | apply below_alloc | apply pw_below_drewN | apply below_drew1 | refine below_set ?_ GE116.out) | exact HB.out)⟩⟩
              · rw [if_neg c13] at H
                exact absurd H (by simp)
            · rw [if_neg c12] at H
              have c12b0 : decide (x5_2 < (t112.length : Int)) = false := decide_eq_false c12
              clear c12
              have H' := Aside0.mk H
              clear H
              obtain ⟨Ao48, co48, eo48⟩ := Kd.R_slice HO_4.out
              subst eo48
              go_wp2
              repeat (go_quiet (fail); try go_wp2)
              go_loopg [9] k2 (fun kq v9 w' => ∃ (x9_3 : Int), v9 = .int .i64 x9_3 ∧ Aside0 (tracerylaw01_WordWhole.l3 kq a0 x9_3 = some r) ∧ Aside0 (kq ≤ k2) ∧ Aside0 (Below w.heap.size w w'))
              case atStart => exact ⟨(x3_2), (by first | rfl | (simp; done) | (simp [*]; done)), H', ⟨Nat.le_refl _⟩, ⟨by repeat (first | (with_reducible first | exact HB.out | apply below_alloc | apply pw_below_drewN | apply below_drew1) | exact HB.out)⟩⟩
              case round =>
                clear H'
                try clear c1
                try clear p1
                try clear q1
                try clear hx1
                try clear c2
                try clear p2
                try clear c3
                try clear p3
                try clear q3
                try clear hx3
                try clear c4
                try clear p4
                try clear q4
                try clear hx4
                try clear p6
                try clear c7
                try clear p11
                try clear q11
                try clear hx11
                try clear c12
                try clear c12b0
                try clear c13
                try clear c13b0
                try clear c18
                try clear c18b0
                try clear c20
                try clear c20b0
                try clear c20b1
                try clear c22
                try clear c22b0
                try clear c24
                try clear c24b0
                try clear c24b1
                try clear c25
                try clear c25b0
                try clear c25b1
                try clear c26
                try clear c26b0
                try clear c26b1
                try clear c27
                try clear c27b0
                try clear c27b1
                try clear c28
                try clear c28b0
                try clear c32
                try clear c33
                try clear c33b0
                try clear c34
                try clear c34b0
                try clear c35
                try clear c35b0
                try clear p36
                try clear q36
                try clear hx36
                try clear c37
                try clear c37b0
                try clear c37b1
                try clear c41
                try clear c41b0
                try clear c42
                try clear c42b0
                try clear p43
                try clear q43
                try clear hx43
                try clear c44
                try clear c44b0
                try clear c44b1
                try clear hcz17_0
                try clear hcz17_1
                try clear hcz19_0
                try clear hcz19_1
                try clear hcz21_0
                try clear hcz21_1
                try clear hcz23_0
                try clear hcz23_1
                try clear hcz29_0
                try clear hcz29_1
                try clear hcz30_0
                try clear hcz30_1
                try clear hcz31_0
                try clear hcz31_1
                try clear hcz38_0
                try clear hcz38_1
                try clear hcz39_0
                try clear hcz39_1
                try clear hcz40_0
                try clear hcz40_1
                try clear hcz45_0
                try clear hcz45_1
                try clear hcz46_0
                try clear hcz46_1
                try clear hcz47_0
                try clear hcz47_1
                try clear hfz17_0
                try clear hfz17_1
                try clear hfz19_0
                try clear hfz19_1
                try clear hfz21_0
                try clear hfz21_1
                try clear hfz23_0
                try clear hfz23_1
                try clear hfz29_0
                try clear hfz29_1
                try clear hfz30_0
                try clear hfz30_1
                try clear hfz31_0
                try clear hfz31_1
                try clear hfz38_0
                try clear hfz38_1
                try clear hfz39_0
                try clear hfz39_1
                try clear hfz40_0
                try clear hfz40_1
                try clear hfz45_0
                try clear hfz45_1
                try clear hfz46_0
                try clear hfz46_1
                try clear hfz47_0
                try clear hfz47_1
                try clear hx115_0
                try clear hx115_1
                try clear p1
                try clear p11
                try clear p115
                try clear p2
                try clear p3
                try clear p36
                try clear p43
                try clear p6
                try clear q1
                try clear q11
                try clear q115
                try clear q3
                try clear q36
                try clear q43
                obtain ⟨x9_3, rfl, HA, HK3, HB⟩ := hrel
                cases gk with
                | zero => exact absurd HA.out (by simp [tracerylaw01_WordWhole.l3])
                | succ k3 =>
                  have H := HA.out
                  clear HA
                  simp only [tracerylaw01_WordWhole.l3] at H
                  by_cases c49 : x9_3 < (a0.size : Int)
                  · rw [if_pos c49] at H
                    have c49b0 : decide (x9_3 < (a0.size : Int)) = true := decide_eq_true c49
                    clear c49
                    by_cases c50 : 0 ≤ x9_3
                    · rw [if_pos c50] at H
                      have c50b0 : decide (0 ≤ x9_3) = true := decide_eq_true c50
                      clear c50
                      by_cases c52 : (bt a0 x9_3) = 32
                      · rw [if_pos c52] at H
                        have c52b0 : ((bt a0 x9_3) == 32) = true := beq_iff_eq.mpr c52
                        have c52b1 : ((bt a0 x9_3) != 32) = false := bne_eq_false_iff_eq.mpr c52
                        clear c52
                        have H' := Aside0.mk H
                        clear H
                        have p51 : 0 ≤ (x9_3 : Int) := of_decide_eq_true (by first | (with_reducible assumption) | assumption)
                        have q51 : x9_3 < (a0.size : Int) := of_decide_eq_true (by first | (with_reducible assumption) | assumption)
                        have hx51 := bt_at a0 x9_3
                        replace p51 := eq_true p51
                        replace q51 := eq_true q51
                        go_wp2
                        repeat (go_quiet (fail); try go_wp2)
                        go_roundg k3
                        case measure => have := HJ1.out; have := HK2.out; have := HK3.out; omega
                        case rel => exact ⟨(wrap64 (x9_3 + 1)), (by first | rfl | (simp; done) | (simp [*]; done)), H', ⟨by have := HJ1.out; have := HK2.out; have := HK3.out; omega⟩, ⟨by repeat (first | (with_reducible first | exact HB.out | apply below_alloc | apply pw_below_drewN | apply below_drew1) | exact HB.out)⟩⟩
                      · rw [if_neg c52] at H
                        have c52b0 : ((bt a0 x9_3) == 32) = false := beq_eq_false_iff_ne.mpr c52
                        have c52b1 : ((bt a0 x9_3) != 32) = true := bne_iff_ne.mpr c52
                        obtain rfl := Option.some.inj H
                        have p51 : 0 ≤ (x9_3 : Int) := of_decide_eq_true (by first | (with_reducible assumption) | assumption)
                        have q51 : x9_3 < (a0.size : Int) := of_decide_eq_true (by first | (with_reducible assumption) | assumption)
                        have hx51 := bt_at a0 x9_3
                        replace p51 := eq_true p51
                        replace q51 := eq_true q51
                        go_wp2
                        repeat (go_quiet (fail); try go_wp2)
                        go_ret
                        exact ⟨by first | rfl | trivial | (simp [errW_none, errW_some] <;> rfl) | (simp [*, errW_none, errW_some] <;> rfl), by repeat (first | (with_reducible first | exact HB.out | apply below_alloc | apply pw_below_drewN | apply below_drew1) | exact HB.out)⟩
                    · rw [if_neg c50] at H
                      exact absurd H (by simp)
                  · rw [if_neg c49] at H
                    have c49b0 : decide (x9_3 < (a0.size : Int)) = false := decide_eq_false c49
                    clear c49
                    obtain rfl := Option.some.inj H
                    go_wp2
                    repeat (go_quiet (fail); try go_wp2)
                    go_ret
                    exact ⟨by first | rfl | trivial | (simp [errW_none, errW_some] <;> rfl) | (simp [*, errW_none, errW_some] <;> rfl), by repeat (first | (with_reducible first | exact HB.out | apply below_alloc | apply pw_below_drewN | apply below_drew1) | exact HB.out)⟩

/-- THE ONE PURE STATEMENT of tracerylaw01_WordWhole: yours. -/
def tracerylaw01_WordWhole.Pure : Prop := ∀ (a0 : ByteArray), a0.size ≤ 140737488351232 → ∃ k, tracerylaw01_WordWhole.f k a0 = some true
theorem tracerylaw01_WordWhole.walk (P : tracerylaw01_WordWhole.Pure) (a0 : ByteArray) (w : World) (w0 : a0.size ≤ 140737488351232) :
    Calls Try.prog 3 #[.string a0] w fun e w' => e = .returned (.bool true) ∧ Below w.heap.size w w' := by
  obtain ⟨k, h⟩ := P a0 w0
  refine (tracerylaw01_WordWhole.calls k a0 true w h).mono ?_
  rintro e w' ⟨rfl, hd⟩
  exact ⟨rfl, hd⟩

end Go.Proofs.Ytdhnoclkepopgaa.PA
