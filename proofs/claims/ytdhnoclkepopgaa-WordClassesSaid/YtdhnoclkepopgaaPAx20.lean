-- Written by wip/tools/gprint.py of this repo (the kit's printer, some functions given).
import Derived.Test.YtdhnoclkepopgaaPAx0
import Derived.Test.YtdhnoclkepopgaaPAx7
import Derived.Test.YtdhnoclkepopgaaPAx11
import Derived.Test.YtdhnoclkepopgaaPAx19
namespace Go.Proofs.Ytdhnoclkepopgaa.PA
open Go.RowKit Go.Proofs.YtdhnoclkepopgaaW.PrintWords Go.Proofs.YtdhnoclkepopgaaW.PrintLast Go.Proofs.YtdhnoclkepopgaaW.PrintMore
attribute [local go_sem] max2_int min2_int max_two min_two max_three min_three max_four min_four   -- for this text's walks alone
set_option linter.unusedVariables false
set_option linter.unusedSimpArgs false
set_option linter.unnecessarySimpa false

/-! ### tracerylaw01_WordNumbers: function 7 -/
mutual
def tracerylaw01_WordNumbers.j0 : Nat → Int → ByteArray → Bool → Option (Bool)
  | 0, _, _, _ => none
  | k + 1, x0, x1, x15 => if x15 = true then ((tracerylaw01_awake.f).bind fun t171 => (some t171)) else (if x0 ≥ 0 then (tracerylaw01_WordNumbers.j1 k x0 x1 (decide (x0 ≤ 999999999))) else (tracerylaw01_WordNumbers.j1 k x0 x1 false))
def tracerylaw01_WordNumbers.j1 : Nat → Int → ByteArray → Bool → Option (Bool)
  | 0, _, _, _ => none
  | k + 1, x0, x1, x22 => if x22 = true then ((tracerylaw01_dec.f k x0).bind fun t172 => ((word_Number.f t172).bind fun bt173 => (if bt173.2 = true then (tracerylaw01_WordNumbers.j2 k x1 (bt173.1 != x0)) else (tracerylaw01_WordNumbers.j2 k x1 true)))) else ((word_Number.f x1).bind fun bt179 => (if bt179.1 > 0 then (if (bt179.2 == true) = true then (if bt179.2 = true then ((tracerylaw01_dec.f k bt179.1).bind fun t181 => (some (t181.toList == x1.toList))) else (some true)) else (some false)) else (if bt179.2 = true then (if (bt179.2 == (x1.toList == ([48] : List UInt8))) = true then ((tracerylaw01_dec.f k bt179.1).bind fun t182 => (some (t182.toList == x1.toList))) else (some false)) else (if (bt179.2 == false) = true then (some true) else (some false)))))
def tracerylaw01_WordNumbers.j2 : Nat → ByteArray → Bool → Option (Bool)
  | 0, _, _ => none
  | k + 1, x1, x35 => if x35 = true then (some false) else ((word_Number.f x1).bind fun bt175 => (if bt175.1 > 0 then (if (bt175.2 == true) = true then (if bt175.2 = true then ((tracerylaw01_dec.f k bt175.1).bind fun t177 => (some (t177.toList == x1.toList))) else (some true)) else (some false)) else (if bt175.2 = true then (if (bt175.2 == (x1.toList == ([48] : List UInt8))) = true then ((tracerylaw01_dec.f k bt175.1).bind fun t178 => (some (t178.toList == x1.toList))) else (some false)) else (if (bt175.2 == false) = true then (some true) else (some false)))))
end
def tracerylaw01_WordNumbers.f (k : Nat) (a0 : Int) (a1 : ByteArray) : Option (Bool) := (tracerylaw01_awake.f).bind fun t170 => (if t170 = true then (tracerylaw01_WordNumbers.j0 k a0 a1 (decide ((a1.size : Int) > 3000))) else (tracerylaw01_WordNumbers.j0 k a0 a1 true))
theorem tracerylaw01_WordNumbers.mono_l : ∀ k, (∀ y0 y1 y2, LeO (tracerylaw01_WordNumbers.j0 k y0 y1 y2) (tracerylaw01_WordNumbers.j0 (k + 1) y0 y1 y2)) ∧ (∀ y0 y1 y2, LeO (tracerylaw01_WordNumbers.j1 k y0 y1 y2) (tracerylaw01_WordNumbers.j1 (k + 1) y0 y1 y2)) ∧ (∀ y0 y1, LeO (tracerylaw01_WordNumbers.j2 k y0 y1) (tracerylaw01_WordNumbers.j2 (k + 1) y0 y1))
  | 0 => ⟨fun _ _ _ r h => by simp [tracerylaw01_WordNumbers.j0] at h, fun _ _ _ r h => by simp [tracerylaw01_WordNumbers.j1] at h, fun _ _ r h => by simp [tracerylaw01_WordNumbers.j2] at h⟩
  | k + 1 => by
    obtain ⟨ih0, ih1, ih2⟩ := tracerylaw01_WordNumbers.mono_l k
    refine ⟨?_, ?_, ?_⟩
    · intro y0 y1 y2
      unfold tracerylaw01_WordNumbers.j0
      repeat' first
      | (with_reducible exact ih0 _ _ _)
      | (with_reducible exact ih1 _ _ _)
      | (with_reducible exact ih2 _ _)
      | (with_reducible exact tracerylaw01_dec.mono _ _)
      | (with_reducible exact LeO.refl _)
      | (with_reducible exact LeO.none _)
      | (with_reducible refine LeO.ite ?_ ?_)
      | (with_reducible refine LeO.bind ?_ (fun _ => ?_))
      | exact ih0 _ _ _
      | exact ih1 _ _ _
      | exact ih2 _ _
      | exact tracerylaw01_dec.mono _ _
      | exact LeO.none _
      | refine LeO.ite ?_ ?_
      | refine LeO.bind ?_ (fun _ => ?_)
    · intro y0 y1 y2
      unfold tracerylaw01_WordNumbers.j1
      repeat' first
      | (with_reducible exact ih0 _ _ _)
      | (with_reducible exact ih1 _ _ _)
      | (with_reducible exact ih2 _ _)
      | (with_reducible exact tracerylaw01_dec.mono _ _)
      | (with_reducible exact LeO.refl _)
      | (with_reducible exact LeO.none _)
      | (with_reducible refine LeO.ite ?_ ?_)
      | (with_reducible refine LeO.bind ?_ (fun _ => ?_))
      | exact ih0 _ _ _
      | exact ih1 _ _ _
      | exact ih2 _ _
      | exact tracerylaw01_dec.mono _ _
      | exact LeO.none _
      | refine LeO.ite ?_ ?_
      | refine LeO.bind ?_ (fun _ => ?_)
    · intro y0 y1
      unfold tracerylaw01_WordNumbers.j2
      repeat' first
      | (with_reducible exact ih0 _ _ _)
      | (with_reducible exact ih1 _ _ _)
      | (with_reducible exact ih2 _ _)
      | (with_reducible exact tracerylaw01_dec.mono _ _)
      | (with_reducible exact LeO.refl _)
      | (with_reducible exact LeO.none _)
      | (with_reducible refine LeO.ite ?_ ?_)
      | (with_reducible refine LeO.bind ?_ (fun _ => ?_))
      | exact ih0 _ _ _
      | exact ih1 _ _ _
      | exact ih2 _ _
      | exact tracerylaw01_dec.mono _ _
      | exact LeO.none _
      | refine LeO.ite ?_ ?_
      | refine LeO.bind ?_ (fun _ => ?_)
theorem tracerylaw01_WordNumbers.mono : ∀ a0 a1 k, LeO (tracerylaw01_WordNumbers.f k a0 a1) (tracerylaw01_WordNumbers.f (k + 1) a0 a1) := by
  intro a0 a1 k
  obtain ⟨ih0, ih1, ih2⟩ := tracerylaw01_WordNumbers.mono_l k
  unfold tracerylaw01_WordNumbers.f
  repeat' first
      | (with_reducible exact ih0 _ _ _)
      | (with_reducible exact ih1 _ _ _)
      | (with_reducible exact ih2 _ _)
      | (with_reducible exact tracerylaw01_dec.mono _ _)
      | (with_reducible exact LeO.refl _)
      | (with_reducible exact LeO.none _)
      | (with_reducible refine LeO.ite ?_ ?_)
      | (with_reducible refine LeO.bind ?_ (fun _ => ?_))
      | exact ih0 _ _ _
      | exact ih1 _ _ _
      | exact ih2 _ _
      | exact tracerylaw01_dec.mono _ _
      | exact LeO.none _
      | refine LeO.ite ?_ ?_
      | refine LeO.bind ?_ (fun _ => ?_)
set_option maxHeartbeats 8000000 in
set_option maxRecDepth 100000 in
theorem tracerylaw01_WordNumbers.calls (k : Nat) (a0 : Int) (a1 : ByteArray) (r : Bool) (w : World) (h : tracerylaw01_WordNumbers.f k a0 a1 = some r) :
    Calls Try.prog 7 #[.int .i64 a0, .string a1] w fun e w' => e = .returned (.bool r) ∧ Below w.heap.size w w' := by
  have HB := Aside0.mk (Below.refl w.heap.size w)
  have H : ((tracerylaw01_awake.f).bind fun t170 => (if t170 = true then (tracerylaw01_WordNumbers.j0 k a0 a1 (decide ((a1.size : Int) > 3000))) else (tracerylaw01_WordNumbers.j0 k a0 a1 true))) = some r := h
  clear h
  have HC3 := Aside0.mk H
  clear H
  go_enter Try.func7, Try.ntmps7
  go_upto_region 1 with (fail)
  go_cut [15] (fun v15 wc => ∃ (kq : Nat) (x15_2 : Bool), v15 = .bool x15_2 ∧ Aside0 (tracerylaw01_WordNumbers.j0 kq a0 a1 x15_2 = some r) ∧ Aside0 (kq ≤ k) ∧ Aside0 (Below w.heap.size w wc))
  case first =>
    have H := HC3.out
    clear HC3
    replace H := Option.bind_eq_some_iff.mp H
    obtain ⟨t170, A40, H⟩ := H
    replace H : (if t170 = true then (tracerylaw01_WordNumbers.j0 k a0 a1 (decide ((a1.size : Int) > 3000))) else (tracerylaw01_WordNumbers.j0 k a0 a1 true)) = some r := H
    have A4 := Aside0.mk A40
    clear A40
    by_cases c5 : t170 = true
    · subst c5
      have H1 : (tracerylaw01_WordNumbers.j0 k a0 a1 (decide ((a1.size : Int) > 3000))) = some r := by rw [if_pos rfl] at H; exact H
      clear H
      have H := H1
      clear H1
      have H' := Aside0.mk H
      clear H
      go_wp2_with (first | ((with_reducible refine gate_callee (f := 9) rfl ?_); refine goesL_ (some 9) rfl rfl Try.func9 (by kernel_rfl) rfl #[] rfl (by (try simp only [List.map_toArray, List.map_cons, List.map_nil]); first | done | rfl | (simp only [List.length_drop, List.length_take]; rfl)) ?_; (with_reducible refine (tracerylaw01_awake.calls  true _ A4.out).mono ?_); rintro e w6 ⟨rfl, hb⟩; refine ⟨_, rfl, ?_⟩; have n0_ := Aside0.mk (below_step (by repeat (first | (with_reducible first | exact HB.out | apply below_alloc | apply pw_below_drewN | apply below_drew1) | exact HB.out)) hb); clear HB; have HB := n0_; clear n0_; (try clear hb); (try clear hb2); (try clear hk); (try clear hi)))
      go_meet
      case rel => exact ⟨_, (decide ((a1.size : Int) > 3000)), (by first | rfl | (simp; done) | (simp [*]; done)), H', ⟨by first | omega | exact Nat.le_refl _⟩, ⟨by repeat (first | (with_reducible first | exact HB.out | apply below_alloc | apply pw_below_drewN | apply below_drew1) | exact HB.out)⟩⟩
    · replace c5 := Bool.eq_false_iff.mpr c5
      subst c5
      have H1 : (tracerylaw01_WordNumbers.j0 k a0 a1 true) = some r := by rw [if_neg (show ¬ (false = true) by decide)] at H; exact H
      clear H
      have H := H1
      clear H1
      have H' := Aside0.mk H
      clear H
      go_wp2_with (first | ((with_reducible refine gate_callee (f := 9) rfl ?_); refine goesL_ (some 9) rfl rfl Try.func9 (by kernel_rfl) rfl #[] rfl (by (try simp only [List.map_toArray, List.map_cons, List.map_nil]); first | done | rfl | (simp only [List.length_drop, List.length_take]; rfl)) ?_; (with_reducible refine (tracerylaw01_awake.calls  false _ A4.out).mono ?_); rintro e w7 ⟨rfl, hb⟩; refine ⟨_, rfl, ?_⟩; have n0_ := Aside0.mk (below_step (by repeat (first | (with_reducible first | exact HB.out | apply below_alloc | apply pw_below_drewN | apply below_drew1) | exact HB.out)) hb); clear HB; have HB := n0_; clear n0_; (try clear hb); (try clear hb2); (try clear hk); (try clear hi)))
      go_meet
      case rel => exact ⟨_, (true), (by first | rfl | (simp; done) | (simp [*]; done)), H', ⟨by first | omega | exact Nat.le_refl _⟩, ⟨by repeat (first | (with_reducible first | exact HB.out | apply below_alloc | apply pw_below_drewN | apply below_drew1) | exact HB.out)⟩⟩
  case rest =>
    clear HC3
    try clear p2
    try clear c5
    try clear c7
    obtain ⟨kq, x15_2, rfl, HA, HJ2, HB⟩ := hcut
    cases kq with
    | zero => exact absurd HA.out (by simp [tracerylaw01_WordNumbers.j0])
    | succ kj2 =>
      have H := HA.out
      clear HA
      simp only [tracerylaw01_WordNumbers.j0] at H
      by_cases c8 : x15_2 = true
      · subst c8
        have H1 : ((tracerylaw01_awake.f).bind fun t171 => (some t171)) = some r := by rw [if_pos rfl] at H; exact H
        clear H
        have H := H1
        clear H1
        replace H := Option.bind_eq_some_iff.mp H
        obtain ⟨t171, A90, H⟩ := H
        replace H : (some t171) = some r := H
        have A9 := Aside0.mk A90
        clear A90
        obtain rfl := Option.some.inj H
        go_wp2_with (first | ((with_reducible refine gate_callee (f := 9) rfl ?_); refine goesL_ (some 16) rfl rfl Try.func9 (by kernel_rfl) rfl #[] rfl (by (try simp only [List.map_toArray, List.map_cons, List.map_nil]); first | done | rfl | (simp only [List.length_drop, List.length_take]; rfl)) ?_; (with_reducible refine (tracerylaw01_awake.calls  t171 _ A9.out).mono ?_); rintro e w10 ⟨rfl, hb⟩; refine ⟨_, rfl, ?_⟩; have n0_ := Aside0.mk (below_step (by repeat (first | (with_reducible first | exact HB.out | apply below_alloc | apply pw_below_drewN | apply below_drew1) | exact HB.out)) hb); clear HB; have HB := n0_; clear n0_; (try clear hb); (try clear hb2); (try clear hk); (try clear hi)))
        go_ret
        exact ⟨by first | rfl | trivial | (simp [errW_none, errW_some] <;> rfl) | (simp [*, errW_none, errW_some] <;> rfl), by repeat (first | (with_reducible first | exact HB.out | apply below_alloc | apply pw_below_drewN | apply below_drew1) | exact HB.out)⟩
      · replace c8 := Bool.eq_false_iff.mpr c8
        subst c8
        have H1 : (if a0 ≥ 0 then (tracerylaw01_WordNumbers.j1 kj2 a0 a1 (decide (a0 ≤ 999999999))) else (tracerylaw01_WordNumbers.j1 kj2 a0 a1 false)) = some r := by rw [if_neg (show ¬ (false = true) by decide)] at H; exact H
        clear H
        have H := H1
        clear H1
        have HC11 := Aside0.mk H
        clear H
        go_upto_region 3 with (fail)
        go_cut [22] (fun v22 wc => ∃ (kq : Nat) (x22_10 : Bool), v22 = .bool x22_10 ∧ Aside0 (tracerylaw01_WordNumbers.j1 kq a0 a1 x22_10 = some r) ∧ Aside0 (kq ≤ kj2) ∧ Aside0 (Below w.heap.size w wc))
        case first =>
          have H := HC11.out
          clear HC11
          by_cases c12 : a0 ≥ 0
          · rw [if_pos c12] at H
            have c12b0 : decide (0 ≤ a0) = true := decide_eq_true c12
            clear c12
            (first | rw [c12b0] | (simp only [i64_w, i32_w]; rw [c12b0]) | skip)
            have H' := Aside0.mk H
            clear H
            go_wp2
            go_meet
            case rel => exact ⟨_, (decide (a0 ≤ 999999999)), (by first | rfl | (simp; done) | (simp [*]; done)), H', ⟨by have := HJ2.out; first | omega | exact Nat.le_refl _⟩, ⟨by repeat (first | (with_reducible first | exact HB.out | apply below_alloc | apply pw_below_drewN | apply below_drew1) | exact HB.out)⟩⟩
          · rw [if_neg c12] at H
            have c12b0 : decide (0 ≤ a0) = false := decide_eq_false c12
            clear c12
            (first | rw [c12b0] | (simp only [i64_w, i32_w]; rw [c12b0]) | skip)
            have H' := Aside0.mk H
            clear H
            go_wp2
            go_meet
            case rel => exact ⟨_, (false), (by first | rfl | (simp; done) | (simp [*]; done)), H', ⟨by have := HJ2.out; first | omega | exact Nat.le_refl _⟩, ⟨by repeat (first | (with_reducible first | exact HB.out | apply below_alloc | apply pw_below_drewN | apply below_drew1) | exact HB.out)⟩⟩
        case rest =>
          clear HC11
          try clear c1
          try clear p2
          try clear c5
          try clear c7
          try clear c8
          try clear c9
          try clear c12
          try clear c12b0
          try clear p2
          obtain ⟨kq, x22_10, rfl, HA, HJ10, HB⟩ := hcut
          cases kq with
          | zero => exact absurd HA.out (by simp [tracerylaw01_WordNumbers.j1])
          | succ kj10 =>
            have H := HA.out
            clear HA
            simp only [tracerylaw01_WordNumbers.j1] at H
            by_cases c13 : x22_10 = true
            · subst c13
              have H1 : ((tracerylaw01_dec.f kj10 a0).bind fun t172 => ((word_Number.f t172).bind fun bt173 => (if bt173.2 = true then (tracerylaw01_WordNumbers.j2 kj10 a1 (bt173.1 != a0)) else (tracerylaw01_WordNumbers.j2 kj10 a1 true)))) = some r := by rw [if_pos rfl] at H; exact H
              clear H
              have H := H1
              clear H1
              replace H := Option.bind_eq_some_iff.mp H
              obtain ⟨t172, A140, H⟩ := H
              replace H : ((word_Number.f t172).bind fun bt173 => (if bt173.2 = true then (tracerylaw01_WordNumbers.j2 kj10 a1 (bt173.1 != a0)) else (tracerylaw01_WordNumbers.j2 kj10 a1 true))) = some r := H
              have A14 := Aside0.mk A140
              clear A140
              replace H := Option.bind_eq_some_iff.mp H
              obtain ⟨⟨t173, t174⟩, A150, H⟩ := H
              replace H : (if t174 = true then (tracerylaw01_WordNumbers.j2 kj10 a1 (t173 != a0)) else (tracerylaw01_WordNumbers.j2 kj10 a1 true)) = some r := H
              have A15 := Aside0.mk A150
              clear A150
              have HC16 := Aside0.mk H
              clear H
              go_upto_region 5 with (first | ((with_reducible refine gate_callee (f := 20) rfl ?_); refine goesL_ (some 25) rfl rfl Try.func20 (by kernel_rfl) rfl #[.int .i64 a0] rfl (by (try simp only [List.map_toArray, List.map_cons, List.map_nil]); first | done | rfl | (simp only [List.length_drop, List.length_take]; rfl)) ?_; (with_reducible refine (tracerylaw01_dec.calls kj10 a0 t172 _ A14.out).mono ?_); rintro e w17 ⟨rfl, hb⟩; refine ⟨_, rfl, ?_⟩; have n0_ := Aside0.mk (below_step (by repeat (first | (with_reducible first | exact HB.out | apply below_alloc | apply pw_below_drewN | apply below_drew1) | exact HB.out)) hb); clear HB; have HB := n0_; clear n0_; (try clear hb); (try clear hb2); (try clear hk); (try clear hi)) | ((with_reducible refine gate_callee (f := 13) rfl ?_); refine goesL_ (some 26) rfl rfl Try.func13 (by kernel_rfl) rfl #[.string t172] rfl (by (try simp only [List.map_toArray, List.map_cons, List.map_nil]); first | done | rfl | (simp only [List.length_drop, List.length_take]; rfl)) ?_; (with_reducible refine (word_Number.calls t172 t173 t174 _ A15.out).mono ?_); rintro e w18 ⟨rfl, hb⟩; refine ⟨_, rfl, ?_⟩; have n0_ := Aside0.mk (below_step (by repeat (first | (with_reducible first | exact HB.out | apply below_alloc | apply pw_below_drewN | apply below_drew1) | exact HB.out)) hb); clear HB; have HB := n0_; clear n0_; (try clear hb); (try clear hb2); (try clear hk); (try clear hi)))
              (try simp only [Act.put, List.setIfInBounds_toArray, List.set_cons_zero, List.set_cons_succ])
              go_cut [35] (fun v35 wc => ∃ (kq : Nat) (x35_15 : Bool), v35 = .bool x35_15 ∧ Aside0 (tracerylaw01_WordNumbers.j2 kq a1 x35_15 = some r) ∧ Aside0 (kq ≤ kj10) ∧ Aside0 (Below w.heap.size w wc))
              case first =>
                have H := HC16.out
                clear HC16
                by_cases c19 : t174 = true
                · subst c19
                  have H1 : (tracerylaw01_WordNumbers.j2 kj10 a1 (t173 != a0)) = some r := by rw [if_pos rfl] at H; exact H
                  clear H
                  have H := H1
                  clear H1
                  have H' := Aside0.mk H
                  clear H
                  go_wp2
                  go_meet
                  case rel => exact ⟨_, ((t173 != a0)), (by first | rfl | (simp; done) | (simp [*]; done)), H', ⟨by have := HJ2.out; have := HJ10.out; first | omega | exact Nat.le_refl _⟩, ⟨by repeat (first | (with_reducible first | exact HB.out | apply below_alloc | apply pw_below_drewN | apply below_drew1) | exact HB.out)⟩⟩
                · replace c19 := Bool.eq_false_iff.mpr c19
                  subst c19
                  have H1 : (tracerylaw01_WordNumbers.j2 kj10 a1 true) = some r := by rw [if_neg (show ¬ (false = true) by decide)] at H; exact H
                  clear H
                  have H := H1
                  clear H1
                  have H' := Aside0.mk H
                  clear H
                  go_wp2
                  go_meet
                  case rel => exact ⟨_, (true), (by first | rfl | (simp; done) | (simp [*]; done)), H', ⟨by have := HJ2.out; have := HJ10.out; first | omega | exact Nat.le_refl _⟩, ⟨by repeat (first | (with_reducible first | exact HB.out | apply below_alloc | apply pw_below_drewN | apply below_drew1) | exact HB.out)⟩⟩
              case rest =>
                clear HC16
                try clear c1
                try clear c2
                try clear p2
                try clear c5
                try clear c7
                try clear c8
                try clear c9
                try clear c12
                try clear c12b0
                try clear c13
                try clear c19
                try clear p2
                obtain ⟨kq, x35_15, rfl, HA, HJ15, HB⟩ := hcut
                cases kq with
                | zero => exact absurd HA.out (by simp [tracerylaw01_WordNumbers.j2])
                | succ kj15 =>
                  have H := HA.out
                  clear HA
                  simp only [tracerylaw01_WordNumbers.j2] at H
                  by_cases c20 : x35_15 = true
                  · subst c20
                    have H1 : (some false) = some r := by rw [if_pos rfl] at H; exact H
                    clear H
                    have H := H1
                    clear H1
                    obtain rfl := Option.some.inj H
                    go_wp2
                    go_ret
                    exact ⟨by first | rfl | trivial | (simp [errW_none, errW_some] <;> rfl) | (simp [*, errW_none, errW_some] <;> rfl), by repeat (first | (with_reducible first | exact HB.out | apply below_alloc | apply pw_below_drewN | apply below_drew1) | exact HB.out)⟩
                  · replace c20 := Bool.eq_false_iff.mpr c20
                    subst c20
                    have H1 : ((word_Number.f a1).bind fun bt175 => (if bt175.1 > 0 then (if (bt175.2 == true) = true then (if bt175.2 = true then ((tracerylaw01_dec.f kj15 bt175.1).bind fun t177 => (some (t177.toList == a1.toList))) else (some true)) else (some false)) else (if bt175.2 = true then (if (bt175.2 == (a1.toList == ([48] : List UInt8))) = true then ((tracerylaw01_dec.f kj15 bt175.1).bind fun t178 => (some (t178.toList == a1.toList))) else (some false)) else (if (bt175.2 == false) = true then (some true) else (some false))))) = some r := by rw [if_neg (show ¬ (false = true) by decide)] at H; exact H
                    clear H
                    have H := H1
                    clear H1
                    replace H := Option.bind_eq_some_iff.mp H
                    obtain ⟨⟨t175, t176⟩, A210, H⟩ := H
                    replace H : (if t175 > 0 then (if (t176 == true) = true then (if t176 = true then ((tracerylaw01_dec.f kj15 t175).bind fun t177 => (some (t177.toList == a1.toList))) else (some true)) else (some false)) else (if t176 = true then (if (t176 == (a1.toList == ([48] : List UInt8))) = true then ((tracerylaw01_dec.f kj15 t175).bind fun t178 => (some (t178.toList == a1.toList))) else (some false)) else (if (t176 == false) = true then (some true) else (some false)))) = some r := H
                    have A21 := Aside0.mk A210
                    clear A210
                    by_cases c22 : t175 > 0
                    · rw [if_pos c22] at H
                      have c22b0 : decide (0 < t175) = true := decide_eq_true c22
                      clear c22
                      by_cases c23 : (t176 == true) = true
                      · rw [if_pos c23] at H
                        have c23b0 : (t176 == true) = true := c23
                        (try (have c23b1 : decide (t176 = true) = true := by simpa using c23))
                        (try (have c23b2 : (t176 == true) = true := by simpa using c23))
                        clear c23
                        by_cases c24 : t176 = true
                        · subst c24
                          have H1 : ((tracerylaw01_dec.f kj15 t175).bind fun t177 => (some (t177.toList == a1.toList))) = some r := by rw [if_pos rfl] at H; exact H
                          clear H
                          have H := H1
                          clear H1
                          replace H := Option.bind_eq_some_iff.mp H
                          obtain ⟨t177, A250, H⟩ := H
                          replace H : (some (t177.toList == a1.toList)) = some r := H
                          have A25 := Aside0.mk A250
                          clear A250
                          obtain rfl := Option.some.inj H
                          go_wp2_with (first | ((with_reducible refine gate_callee (f := 13) rfl ?_); refine goesL_ (some 38) rfl rfl Try.func13 (by kernel_rfl) rfl #[.string a1] rfl (by (try simp only [List.map_toArray, List.map_cons, List.map_nil]); first | done | rfl | (simp only [List.length_drop, List.length_take]; rfl)) ?_; (with_reducible refine (word_Number.calls a1 t175 true _ A21.out).mono ?_); rintro e w26 ⟨rfl, hb⟩; refine ⟨_, rfl, ?_⟩; have n0_ := Aside0.mk (below_step (by repeat (first | (with_reducible first | exact HB.out | apply below_alloc | apply pw_below_drewN | apply below_drew1) | exact HB.out)) hb); clear HB; have HB := n0_; clear n0_; (try clear hb); (try clear hb2); (try clear hk); (try clear hi)) | (go_at_call 20; (with_reducible refine (tracerylaw01_dec.calls kj15 t175 t177 _ A25.out).mono ?_); rintro e w27 ⟨rfl, hb⟩; have n0_ := Aside0.mk (below_step (by repeat (first | (with_reducible first | exact HB.out | apply below_alloc | apply pw_below_drewN | apply below_drew1) | exact HB.out)) hb); clear HB; have HB := n0_; clear n0_; (try clear hb); (try clear hb2); (try clear hk); (try clear hi)))
                          go_ret
                          exact ⟨by first | rfl | trivial | (simp [errW_none, errW_some] <;> rfl) | (simp [*, errW_none, errW_some] <;> rfl), by repeat (first | (with_reducible first | exact HB.out | apply below_alloc | apply pw_below_drewN | apply below_drew1) | exact HB.out)⟩
                        · replace c24 := Bool.eq_false_iff.mpr c24
                          subst c24
                          have H1 : (some true) = some r := by rw [if_neg (show ¬ (false = true) by decide)] at H; exact H
                          clear H
                          have H := H1
                          clear H1
                          obtain rfl := Option.some.inj H
                          go_wp2_with (first | ((with_reducible refine gate_callee (f := 13) rfl ?_); refine goesL_ (some 38) rfl rfl Try.func13 (by kernel_rfl) rfl #[.string a1] rfl (by (try simp only [List.map_toArray, List.map_cons, List.map_nil]); first | done | rfl | (simp only [List.length_drop, List.length_take]; rfl)) ?_; (with_reducible refine (word_Number.calls a1 t175 false _ A21.out).mono ?_); rintro e w28 ⟨rfl, hb⟩; refine ⟨_, rfl, ?_⟩; have n0_ := Aside0.mk (below_step (by repeat (first | (with_reducible first | exact HB.out | apply below_alloc | apply pw_below_drewN | apply below_drew1) | exact HB.out)) hb); clear HB; have HB := n0_; clear n0_; (try clear hb); (try clear hb2); (try clear hk); (try clear hi)))
                          go_ret
                          exact ⟨by first | rfl | trivial | (simp [errW_none, errW_some] <;> rfl) | (simp [*, errW_none, errW_some] <;> rfl), by repeat (first | (with_reducible first | exact HB.out | apply below_alloc | apply pw_below_drewN | apply below_drew1) | exact HB.out)⟩
                      · rw [if_neg c23] at H
                        have c23b0 : (t176 == true) = false := by simpa using c23
                        (try (have c23b1 : decide (t176 = true) = false := by simpa using c23))
                        (try (have c23b2 : (t176 == true) = false := by simpa using c23))
                        (try (have c23b3 : ¬ (t176 = true) := by simpa using c23))
                        clear c23
                        obtain rfl := Option.some.inj H
                        go_wp2_with (first | ((with_reducible refine gate_callee (f := 13) rfl ?_); refine goesL_ (some 38) rfl rfl Try.func13 (by kernel_rfl) rfl #[.string a1] rfl (by (try simp only [List.map_toArray, List.map_cons, List.map_nil]); first | done | rfl | (simp only [List.length_drop, List.length_take]; rfl)) ?_; (with_reducible refine (word_Number.calls a1 t175 t176 _ A21.out).mono ?_); rintro e w29 ⟨rfl, hb⟩; refine ⟨_, rfl, ?_⟩; have n0_ := Aside0.mk (below_step (by repeat (first | (with_reducible first | exact HB.out | apply below_alloc | apply pw_below_drewN | apply below_drew1) | exact HB.out)) hb); clear HB; have HB := n0_; clear n0_; (try clear hb); (try clear hb2); (try clear hk); (try clear hi)))
                        go_ret
                        exact ⟨by first | rfl | trivial | (simp [errW_none, errW_some] <;> rfl) | (simp [*, errW_none, errW_some] <;> rfl), by repeat (first | (with_reducible first | exact HB.out | apply below_alloc | apply pw_below_drewN | apply below_drew1) | exact HB.out)⟩
                    · rw [if_neg c22] at H
                      have c22b0 : decide (0 < t175) = false := decide_eq_false c22
                      clear c22
                      by_cases c30 : t176 = true
                      · subst c30
                        have H1 : (if (true == (a1.toList == ([48] : List UInt8))) = true then ((tracerylaw01_dec.f kj15 t175).bind fun t178 => (some (t178.toList == a1.toList))) else (some false)) = some r := by rw [if_pos rfl] at H; exact H
                        clear H
                        have H := H1
                        clear H1
                        by_cases c31 : (true == (a1.toList == ([48] : List UInt8))) = true
                        · rw [if_pos c31] at H
                          have c31b0 : (true == (a1.toList == ([48] : List UInt8))) = true := c31
                          (try (have c31b1 : decide (true = (a1.toList == ([48] : List UInt8))) = true := by simpa using c31))
                          (try (have c31b2 : (true == (a1.toList == ([48] : List UInt8))) = true := by simpa using c31))
                          clear c31
                          replace H := Option.bind_eq_some_iff.mp H
                          obtain ⟨t178, A320, H⟩ := H
                          replace H : (some (t178.toList == a1.toList)) = some r := H
                          have A32 := Aside0.mk A320
                          clear A320
                          obtain rfl := Option.some.inj H
                          go_wp2_with (first | ((with_reducible refine gate_callee (f := 13) rfl ?_); refine goesL_ (some 38) rfl rfl Try.func13 (by kernel_rfl) rfl #[.string a1] rfl (by (try simp only [List.map_toArray, List.map_cons, List.map_nil]); first | done | rfl | (simp only [List.length_drop, List.length_take]; rfl)) ?_; (with_reducible refine (word_Number.calls a1 t175 true _ A21.out).mono ?_); rintro e w33 ⟨rfl, hb⟩; refine ⟨_, rfl, ?_⟩; have n0_ := Aside0.mk (below_step (by repeat (first | (with_reducible first | exact HB.out | apply below_alloc | apply pw_below_drewN | apply below_drew1) | exact HB.out)) hb); clear HB; have HB := n0_; clear n0_; (try clear hb); (try clear hb2); (try clear hk); (try clear hi)) | (go_at_call 20; (with_reducible refine (tracerylaw01_dec.calls kj15 t175 t178 _ A32.out).mono ?_); rintro e w34 ⟨rfl, hb⟩; have n0_ := Aside0.mk (below_step (by repeat (first | (with_reducible first | exact HB.out | apply below_alloc | apply pw_below_drewN | apply below_drew1) | exact HB.out)) hb); clear HB; have HB := n0_; clear n0_; (try clear hb); (try clear hb2); (try clear hk); (try clear hi)))
                          go_ret
                          exact ⟨by first | rfl | trivial | (simp [errW_none, errW_some] <;> rfl) | (simp [*, errW_none, errW_some] <;> rfl), by repeat (first | (with_reducible first | exact HB.out | apply below_alloc | apply pw_below_drewN | apply below_drew1) | exact HB.out)⟩
                        · rw [if_neg c31] at H
                          have c31b0 : (true == (a1.toList == ([48] : List UInt8))) = false := by simpa using c31
                          (try (have c31b1 : decide (true = (a1.toList == ([48] : List UInt8))) = false := by simpa using c31))
                          (try (have c31b2 : (true == (a1.toList == ([48] : List UInt8))) = false := by simpa using c31))
                          (try (have c31b3 : ¬ (true = (a1.toList == ([48] : List UInt8))) := by simpa using c31))
                          clear c31
                          obtain rfl := Option.some.inj H
                          go_wp2_with (first | ((with_reducible refine gate_callee (f := 13) rfl ?_); refine goesL_ (some 38) rfl rfl Try.func13 (by kernel_rfl) rfl #[.string a1] rfl (by (try simp only [List.map_toArray, List.map_cons, List.map_nil]); first | done | rfl | (simp only [List.length_drop, List.length_take]; rfl)) ?_; (with_reducible refine (word_Number.calls a1 t175 true _ A21.out).mono ?_); rintro e w35 ⟨rfl, hb⟩; refine ⟨_, rfl, ?_⟩; have n0_ := Aside0.mk (below_step (by repeat (first | (with_reducible first | exact HB.out | apply below_alloc | apply pw_below_drewN | apply below_drew1) | exact HB.out)) hb); clear HB; have HB := n0_; clear n0_; (try clear hb); (try clear hb2); (try clear hk); (try clear hi)))
                          go_ret
                          exact ⟨by first | rfl | trivial | (simp [errW_none, errW_some] <;> rfl) | (simp [*, errW_none, errW_some] <;> rfl), by repeat (first | (with_reducible first | exact HB.out | apply below_alloc | apply pw_below_drewN | apply below_drew1) | exact HB.out)⟩
                      · replace c30 := Bool.eq_false_iff.mpr c30
                        subst c30
                        have H1 : (if (false == false) = true then (some true) else (some false)) = some r := by rw [if_neg (show ¬ (false = true) by decide)] at H; exact H
                        clear H
                        have H := H1
                        clear H1
                        by_cases c36 : (false == false) = true
                        · rw [if_pos c36] at H
                          have c36b0 : (false == false) = true := c36
                          (try (have c36b1 : decide (false = false) = true := by simpa using c36))
                          (try (have c36b2 : (false == false) = true := by simpa using c36))
                          clear c36
                          obtain rfl := Option.some.inj H
                          go_wp2_with (first | ((with_reducible refine gate_callee (f := 13) rfl ?_); refine goesL_ (some 38) rfl rfl Try.func13 (by kernel_rfl) rfl #[.string a1] rfl (by (try simp only [List.map_toArray, List.map_cons, List.map_nil]); first | done | rfl | (simp only [List.length_drop, List.length_take]; rfl)) ?_; (with_reducible refine (word_Number.calls a1 t175 false _ A21.out).mono ?_); rintro e w37 ⟨rfl, hb⟩; refine ⟨_, rfl, ?_⟩; have n0_ := Aside0.mk (below_step (by repeat (first | (with_reducible first | exact HB.out | apply below_alloc | apply pw_below_drewN | apply below_drew1) | exact HB.out)) hb); clear HB; have HB := n0_; clear n0_; (try clear hb); (try clear hb2); (try clear hk); (try clear hi)))
                          go_ret
                          exact ⟨by first | rfl | trivial | (simp [errW_none, errW_some] <;> rfl) | (simp [*, errW_none, errW_some] <;> rfl), by repeat (first | (with_reducible first | exact HB.out | apply below_alloc | apply pw_below_drewN | apply below_drew1) | exact HB.out)⟩
                        · rw [if_neg c36] at H
                          have c36b0 : (false == false) = false := by simpa using c36
                          (try (have c36b1 : decide (false = false) = false := by simpa using c36))
                          (try (have c36b2 : (false == false) = false := by simpa using c36))
                          (try (have c36b3 : ¬ (false = false) := by simpa using c36))
                          clear c36
                          obtain rfl := Option.some.inj H
                          go_wp2_with (first | ((with_reducible refine gate_callee (f := 13) rfl ?_); refine goesL_ (some 38) rfl rfl Try.func13 (by kernel_rfl) rfl #[.string a1] rfl (by (try simp only [List.map_toArray, List.map_cons, List.map_nil]); first | done | rfl | (simp only [List.length_drop, List.length_take]; rfl)) ?_; (with_reducible refine (word_Number.calls a1 t175 false _ A21.out).mono ?_); rintro e w38 ⟨rfl, hb⟩; refine ⟨_, rfl, ?_⟩; have n0_ := Aside0.mk (below_step (by repeat (first | (with_reducible first | exact HB.out | apply below_alloc | apply pw_below_drewN | apply below_drew1) | exact HB.out)) hb); clear HB; have HB := n0_; clear n0_; (try clear hb); (try clear hb2); (try clear hk); (try clear hi)))
                          go_ret
                          exact ⟨by first | rfl | trivial | (simp [errW_none, errW_some] <;> rfl) | (simp [*, errW_none, errW_some] <;> rfl), by repeat (first | (with_reducible first | exact HB.out | apply below_alloc | apply pw_below_drewN | apply below_drew1) | exact HB.out)⟩
            · replace c13 := Bool.eq_false_iff.mpr c13
              subst c13
              have H1 : ((word_Number.f a1).bind fun bt179 => (if bt179.1 > 0 then (if (bt179.2 == true) = true then (if bt179.2 = true then ((tracerylaw01_dec.f kj10 bt179.1).bind fun t181 => (some (t181.toList == a1.toList))) else (some true)) else (some false)) else (if bt179.2 = true then (if (bt179.2 == (a1.toList == ([48] : List UInt8))) = true then ((tracerylaw01_dec.f kj10 bt179.1).bind fun t182 => (some (t182.toList == a1.toList))) else (some false)) else (if (bt179.2 == false) = true then (some true) else (some false))))) = some r := by rw [if_neg (show ¬ (false = true) by decide)] at H; exact H
              clear H
              have H := H1
              clear H1
              replace H := Option.bind_eq_some_iff.mp H
              obtain ⟨⟨t179, t180⟩, A390, H⟩ := H
              replace H : (if t179 > 0 then (if (t180 == true) = true then (if t180 = true then ((tracerylaw01_dec.f kj10 t179).bind fun t181 => (some (t181.toList == a1.toList))) else (some true)) else (some false)) else (if t180 = true then (if (t180 == (a1.toList == ([48] : List UInt8))) = true then ((tracerylaw01_dec.f kj10 t179).bind fun t182 => (some (t182.toList == a1.toList))) else (some false)) else (if (t180 == false) = true then (some true) else (some false)))) = some r := H
              have A39 := Aside0.mk A390
              clear A390
              by_cases c40 : t179 > 0
              · rw [if_pos c40] at H
                have c40b0 : decide (0 < t179) = true := decide_eq_true c40
                clear c40
                by_cases c41 : (t180 == true) = true
                · rw [if_pos c41] at H
                  have c41b0 : (t180 == true) = true := c41
                  (try (have c41b1 : decide (t180 = true) = true := by simpa using c41))
                  (try (have c41b2 : (t180 == true) = true := by simpa using c41))
                  clear c41
                  by_cases c42 : t180 = true
                  · subst c42
                    have H1 : ((tracerylaw01_dec.f kj10 t179).bind fun t181 => (some (t181.toList == a1.toList))) = some r := by rw [if_pos rfl] at H; exact H
                    clear H
                    have H := H1
                    clear H1
                    replace H := Option.bind_eq_some_iff.mp H
                    obtain ⟨t181, A430, H⟩ := H
                    replace H : (some (t181.toList == a1.toList)) = some r := H
                    have A43 := Aside0.mk A430
                    clear A430
                    obtain rfl := Option.some.inj H
                    go_wp2_with (first | ((with_reducible refine gate_callee (f := 13) rfl ?_); refine goesL_ (some 38) rfl rfl Try.func13 (by kernel_rfl) rfl #[.string a1] rfl (by (try simp only [List.map_toArray, List.map_cons, List.map_nil]); first | done | rfl | (simp only [List.length_drop, List.length_take]; rfl)) ?_; (with_reducible refine (word_Number.calls a1 t179 true _ A39.out).mono ?_); rintro e w44 ⟨rfl, hb⟩; refine ⟨_, rfl, ?_⟩; have n0_ := Aside0.mk (below_step (by repeat (first | (with_reducible first | exact HB.out | apply below_alloc | apply pw_below_drewN | apply below_drew1) | exact HB.out)) hb); clear HB; have HB := n0_; clear n0_; (try clear hb); (try clear hb2); (try clear hk); (try clear hi)) | (go_at_call 20; (with_reducible refine (tracerylaw01_dec.calls kj10 t179 t181 _ A43.out).mono ?_); rintro e w45 ⟨rfl, hb⟩; have n0_ := Aside0.mk (below_step (by repeat (first | (with_reducible first | exact HB.out | apply below_alloc | apply pw_below_drewN | apply below_drew1) | exact HB.out)) hb); clear HB; have HB := n0_; clear n0_; (try clear hb); (try clear hb2); (try clear hk); (try clear hi)))
                    go_ret
                    exact ⟨by first | rfl | trivial | (simp [errW_none, errW_some] <;> rfl) | (simp [*, errW_none, errW_some] <;> rfl), by repeat (first | (with_reducible first | exact HB.out | apply below_alloc | apply pw_below_drewN | apply below_drew1) | exact HB.out)⟩
                  · replace c42 := Bool.eq_false_iff.mpr c42
                    subst c42
                    have H1 : (some true) = some r := by rw [if_neg (show ¬ (false = true) by decide)] at H; exact H
                    clear H
                    have H := H1
                    clear H1
                    obtain rfl := Option.some.inj H
                    go_wp2_with (first | ((with_reducible refine gate_callee (f := 13) rfl ?_); refine goesL_ (some 38) rfl rfl Try.func13 (by kernel_rfl) rfl #[.string a1] rfl (by (try simp only [List.map_toArray, List.map_cons, List.map_nil]); first | done | rfl | (simp only [List.length_drop, List.length_take]; rfl)) ?_; (with_reducible refine (word_Number.calls a1 t179 false _ A39.out).mono ?_); rintro e w46 ⟨rfl, hb⟩; refine ⟨_, rfl, ?_⟩; have n0_ := Aside0.mk (below_step (by repeat (first | (with_reducible first | exact HB.out | apply below_alloc | apply pw_below_drewN | apply below_drew1) | exact HB.out)) hb); clear HB; have HB := n0_; clear n0_; (try clear hb); (try clear hb2); (try clear hk); (try clear hi)))
                    go_ret
                    exact ⟨by first | rfl | trivial | (simp [errW_none, errW_some] <;> rfl) | (simp [*, errW_none, errW_some] <;> rfl), by repeat (first | (with_reducible first | exact HB.out | apply below_alloc | apply pw_below_drewN | apply below_drew1) | exact HB.out)⟩
                · rw [if_neg c41] at H
                  have c41b0 : (t180 == true) = false := by simpa using c41
                  (try (have c41b1 : decide (t180 = true) = false := by simpa using c41))
                  (try (have c41b2 : (t180 == true) = false := by simpa using c41))
                  (try (have c41b3 : ¬ (t180 = true) := by simpa using c41))
                  clear c41
                  obtain rfl := Option.some.inj H
                  go_wp2_with (first | ((with_reducible refine gate_callee (f := 13) rfl ?_); refine goesL_ (some 38) rfl rfl Try.func13 (by kernel_rfl) rfl #[.string a1] rfl (by (try simp only [List.map_toArray, List.map_cons, List.map_nil]); first | done | rfl | (simp only [List.length_drop, List.length_take]; rfl)) ?_; (with_reducible refine (word_Number.calls a1 t179 t180 _ A39.out).mono ?_); rintro e w47 ⟨rfl, hb⟩; refine ⟨_, rfl, ?_⟩; have n0_ := Aside0.mk (below_step (by repeat (first | (with_reducible first | exact HB.out | apply below_alloc | apply pw_below_drewN | apply below_drew1) | exact HB.out)) hb); clear HB; have HB := n0_; clear n0_; (try clear hb); (try clear hb2); (try clear hk); (try clear hi)))
                  go_ret
                  exact ⟨by first | rfl | trivial | (simp [errW_none, errW_some] <;> rfl) | (simp [*, errW_none, errW_some] <;> rfl), by repeat (first | (with_reducible first | exact HB.out | apply below_alloc | apply pw_below_drewN | apply below_drew1) | exact HB.out)⟩
              · rw [if_neg c40] at H
                have c40b0 : decide (0 < t179) = false := decide_eq_false c40
                clear c40
                by_cases c48 : t180 = true
                · subst c48
                  have H1 : (if (true == (a1.toList == ([48] : List UInt8))) = true then ((tracerylaw01_dec.f kj10 t179).bind fun t182 => (some (t182.toList == a1.toList))) else (some false)) = some r := by rw [if_pos rfl] at H; exact H
                  clear H
                  have H := H1
                  clear H1
                  by_cases c49 : (true == (a1.toList == ([48] : List UInt8))) = true
                  · rw [if_pos c49] at H
                    have c49b0 : (true == (a1.toList == ([48] : List UInt8))) = true := c49
                    (try (have c49b1 : decide (true = (a1.toList == ([48] : List UInt8))) = true := by simpa using c49))
                    (try (have c49b2 : (true == (a1.toList == ([48] : List UInt8))) = true := by simpa using c49))
                    clear c49
                    replace H := Option.bind_eq_some_iff.mp H
                    obtain ⟨t182, A500, H⟩ := H
                    replace H : (some (t182.toList == a1.toList)) = some r := H
                    have A50 := Aside0.mk A500
                    clear A500
                    obtain rfl := Option.some.inj H
                    go_wp2_with (first | ((with_reducible refine gate_callee (f := 13) rfl ?_); refine goesL_ (some 38) rfl rfl Try.func13 (by kernel_rfl) rfl #[.string a1] rfl (by (try simp only [List.map_toArray, List.map_cons, List.map_nil]); first | done | rfl | (simp only [List.length_drop, List.length_take]; rfl)) ?_; (with_reducible refine (word_Number.calls a1 t179 true _ A39.out).mono ?_); rintro e w51 ⟨rfl, hb⟩; refine ⟨_, rfl, ?_⟩; have n0_ := Aside0.mk (below_step (by repeat (first | (with_reducible first | exact HB.out | apply below_alloc | apply pw_below_drewN | apply below_drew1) | exact HB.out)) hb); clear HB; have HB := n0_; clear n0_; (try clear hb); (try clear hb2); (try clear hk); (try clear hi)) | (go_at_call 20; (with_reducible refine (tracerylaw01_dec.calls kj10 t179 t182 _ A50.out).mono ?_); rintro e w52 ⟨rfl, hb⟩; have n0_ := Aside0.mk (below_step (by repeat (first | (with_reducible first | exact HB.out | apply below_alloc | apply pw_below_drewN | apply below_drew1) | exact HB.out)) hb); clear HB; have HB := n0_; clear n0_; (try clear hb); (try clear hb2); (try clear hk); (try clear hi)))
                    go_ret
                    exact ⟨by first | rfl | trivial | (simp [errW_none, errW_some] <;> rfl) | (simp [*, errW_none, errW_some] <;> rfl), by repeat (first | (with_reducible first | exact HB.out | apply below_alloc | apply pw_below_drewN | apply below_drew1) | exact HB.out)⟩
                  · rw [if_neg c49] at H
                    have c49b0 : (true == (a1.toList == ([48] : List UInt8))) = false := by simpa using c49
                    (try (have c49b1 : decide (true = (a1.toList == ([48] : List UInt8))) = false := by simpa using c49))
                    (try (have c49b2 : (true == (a1.toList == ([48] : List UInt8))) = false := by simpa using c49))
                    (try (have c49b3 : ¬ (true = (a1.toList == ([48] : List UInt8))) := by simpa using c49))
                    clear c49
                    obtain rfl := Option.some.inj H
                    go_wp2_with (first | ((with_reducible refine gate_callee (f := 13) rfl ?_); refine goesL_ (some 38) rfl rfl Try.func13 (by kernel_rfl) rfl #[.string a1] rfl (by (try simp only [List.map_toArray, List.map_cons, List.map_nil]); first | done | rfl | (simp only [List.length_drop, List.length_take]; rfl)) ?_; (with_reducible refine (word_Number.calls a1 t179 true _ A39.out).mono ?_); rintro e w53 ⟨rfl, hb⟩; refine ⟨_, rfl, ?_⟩; have n0_ := Aside0.mk (below_step (by repeat (first | (with_reducible first | exact HB.out | apply below_alloc | apply pw_below_drewN | apply below_drew1) | exact HB.out)) hb); clear HB; have HB := n0_; clear n0_; (try clear hb); (try clear hb2); (try clear hk); (try clear hi)))
                    go_ret
                    exact ⟨by first | rfl | trivial | (simp [errW_none, errW_some] <;> rfl) | (simp [*, errW_none, errW_some] <;> rfl), by repeat (first | (with_reducible first | exact HB.out | apply below_alloc | apply pw_below_drewN | apply below_drew1) | exact HB.out)⟩
                · replace c48 := Bool.eq_false_iff.mpr c48
                  subst c48
                  have H1 : (if (false == false) = true then (some true) else (some false)) = some r := by rw [if_neg (show ¬ (false = true) by decide)] at H; exact H
                  clear H
                  have H := H1
                  clear H1
                  by_cases c54 : (false == false) = true
                  · rw [if_pos c54] at H
                    have c54b0 : (false == false) = true := c54
                    (try (have c54b1 : decide (false = false) = true := by simpa using c54))
                    (try (have c54b2 : (false == false) = true := by simpa using c54))
                    clear c54
                    obtain rfl := Option.some.inj H
                    go_wp2_with (first | ((with_reducible refine gate_callee (f := 13) rfl ?_); refine goesL_ (some 38) rfl rfl Try.func13 (by kernel_rfl) rfl #[.string a1] rfl (by (try simp only [List.map_toArray, List.map_cons, List.map_nil]); first | done | rfl | (simp only [List.length_drop, List.length_take]; rfl)) ?_; (with_reducible refine (word_Number.calls a1 t179 false _ A39.out).mono ?_); rintro e w55 ⟨rfl, hb⟩; refine ⟨_, rfl, ?_⟩; have n0_ := Aside0.mk (below_step (by repeat (first | (with_reducible first | exact HB.out | apply below_alloc | apply pw_below_drewN | apply below_drew1) | exact HB.out)) hb); clear HB; have HB := n0_; clear n0_; (try clear hb); (try clear hb2); (try clear hk); (try clear hi)))
                    go_ret
                    exact ⟨by first | rfl | trivial | (simp [errW_none, errW_some] <;> rfl) | (simp [*, errW_none, errW_some] <;> rfl), by repeat (first | (with_reducible first | exact HB.out | apply below_alloc | apply pw_below_drewN | apply below_drew1) | exact HB.out)⟩
                  · rw [if_neg c54] at H
                    have c54b0 : (false == false) = false := by simpa using c54
                    (try (have c54b1 : decide (false = false) = false := by simpa using c54))
                    (try (have c54b2 : (false == false) = false := by simpa using c54))
                    (try (have c54b3 : ¬ (false = false) := by simpa using c54))
                    clear c54
                    obtain rfl := Option.some.inj H
                    go_wp2_with (first | ((with_reducible refine gate_callee (f := 13) rfl ?_); refine goesL_ (some 38) rfl rfl Try.func13 (by kernel_rfl) rfl #[.string a1] rfl (by (try simp only [List.map_toArray, List.map_cons, List.map_nil]); first | done | rfl | (simp only [List.length_drop, List.length_take]; rfl)) ?_; (with_reducible refine (word_Number.calls a1 t179 false _ A39.out).mono ?_); rintro e w56 ⟨rfl, hb⟩; refine ⟨_, rfl, ?_⟩; have n0_ := Aside0.mk (below_step (by repeat (first | (with_reducible first | exact HB.out | apply below_alloc | apply pw_below_drewN | apply below_drew1) | exact HB.out)) hb); clear HB; have HB := n0_; clear n0_; (try clear hb); (try clear hb2); (try clear hk); (try clear hi)))
                    go_ret
                    exact ⟨by first | rfl | trivial | (simp [errW_none, errW_some] <;> rfl) | (simp [*, errW_none, errW_some] <;> rfl), by repeat (first | (with_reducible first | exact HB.out | apply below_alloc | apply pw_below_drewN | apply below_drew1) | exact HB.out)⟩

/-- THE ONE PURE STATEMENT of tracerylaw01_WordNumbers: yours. -/
def tracerylaw01_WordNumbers.Pure : Prop := ∀ (a0 : Int) (a1 : ByteArray), (Lit.int .i64 a0).wf = true → a1.size ≤ 140737488351232 → ∃ k, tracerylaw01_WordNumbers.f k a0 a1 = some true
theorem tracerylaw01_WordNumbers.walk (P : tracerylaw01_WordNumbers.Pure) (a0 : Int) (a1 : ByteArray) (w : World) (w0 : (Lit.int .i64 a0).wf = true) (w1 : a1.size ≤ 140737488351232) :
    Calls Try.prog 7 #[.int .i64 a0, .string a1] w fun e w' => e = .returned (.bool true) ∧ Below w.heap.size w w' := by
  obtain ⟨k, h⟩ := P a0 a1 w0 w1
  refine (tracerylaw01_WordNumbers.calls k a0 a1 true w h).mono ?_
  rintro e w' ⟨rfl, hd⟩
  exact ⟨rfl, hd⟩

end Go.Proofs.Ytdhnoclkepopgaa.PA
