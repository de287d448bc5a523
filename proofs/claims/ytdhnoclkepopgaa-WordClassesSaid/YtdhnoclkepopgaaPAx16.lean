-- Written by wip/tools/gprint.py of this repo (the kit's printer, some functions given).
import Derived.Test.YtdhnoclkepopgaaPAx0
import Derived.Test.YtdhnoclkepopgaaPAx13
import Derived.Test.YtdhnoclkepopgaaPAx14
namespace Go.Proofs.Ytdhnoclkepopgaa.PA
open Go.RowKit Go.Proofs.YtdhnoclkepopgaaW.PrintWords Go.Proofs.YtdhnoclkepopgaaW.PrintLast Go.Proofs.YtdhnoclkepopgaaW.PrintMore
attribute [local go_sem] max2_int min2_int max_two min_two max_three min_three max_four min_four   -- for this text's walks alone
set_option linter.unusedVariables false
set_option linter.unusedSimpArgs false
set_option linter.unnecessarySimpa false

/-! ### traceryref01_Classes: function 25 -/
def traceryref01_Classes.l0 : Nat → ByteArray → List Int → Int → Option (List Int)
  | 0, _, _, _ => none
  | k + 1, x0, x3, x4 => if x4 < (x0.size : Int) then ((traceryref01_Rune.f k x0 x4).bind fun bt139 => (if bt139.1 < 0 then (if x3.length < 17592186044416 then (traceryref01_Classes.l0 k x0 (x3 ++ [9]) (wrap64 (x4 + bt139.2))) else (none)) else ((traceryref01_Class.f k bt139.1).bind fun t144 => (if x3.length < 17592186044416 then (traceryref01_Classes.l0 k x0 (x3 ++ [t144]) (wrap64 (x4 + bt139.2))) else (none))))) else (some x3)
def traceryref01_Classes.f (k : Nat) (a0 : ByteArray) : Option (List Int) := traceryref01_Classes.l0 k a0 ([] : List Int) 0
theorem traceryref01_Classes.mono_l : ∀ k, (∀ y0 y1 y2, LeO (traceryref01_Classes.l0 k y0 y1 y2) (traceryref01_Classes.l0 (k + 1) y0 y1 y2))
  | 0 => fun _ _ _ r h => by simp [traceryref01_Classes.l0] at h
  | k + 1 => by
    have ih0 := traceryref01_Classes.mono_l k
    · intro y0 y1 y2
      unfold traceryref01_Classes.l0
      repeat' first
      | (with_reducible exact ih0 _ _ _)
      | (with_reducible exact traceryref01_Class.mono _ _)
      | (with_reducible exact traceryref01_Rune.mono _ _ _)
      | (with_reducible exact LeO.refl _)
      | (with_reducible exact LeO.none _)
      | (with_reducible refine LeO.ite ?_ ?_)
      | (with_reducible refine LeO.bind ?_ (fun _ => ?_))
      | exact ih0 _ _ _
      | exact traceryref01_Class.mono _ _
      | exact traceryref01_Rune.mono _ _ _
      | exact LeO.none _
      | refine LeO.ite ?_ ?_
      | refine LeO.bind ?_ (fun _ => ?_)
theorem traceryref01_Classes.mono : ∀ a0 k, LeO (traceryref01_Classes.f k a0) (traceryref01_Classes.f (k + 1) a0) := by
  intro a0 k
  have ih0 := traceryref01_Classes.mono_l k
  unfold traceryref01_Classes.f
  repeat' first
      | (with_reducible exact ih0 _ _ _)
      | (with_reducible exact traceryref01_Class.mono _ _)
      | (with_reducible exact traceryref01_Rune.mono _ _ _)
      | (with_reducible exact LeO.refl _)
      | (with_reducible exact LeO.none _)
      | (with_reducible refine LeO.ite ?_ ?_)
      | (with_reducible refine LeO.bind ?_ (fun _ => ?_))
      | exact ih0 _ _ _
      | exact traceryref01_Class.mono _ _
      | exact traceryref01_Rune.mono _ _ _
      | exact LeO.none _
      | refine LeO.ite ?_ ?_
      | refine LeO.bind ?_ (fun _ => ?_)
set_option maxHeartbeats 8000000 in
set_option maxRecDepth 100000 in
theorem traceryref01_Classes.calls (k : Nat) (a0 : ByteArray) (r : List Int) (w : World) (h : traceryref01_Classes.f k a0 = some r) :
    Calls Try.prog 25 #[.string a0] w fun e w' => ∃ v0_ : Value, e = .returned (v0_) ∧ Kd.R (Kd.int .i64) 3 w' w.heap.size (fun _ => True) v0_ r ∧ Below w.heap.size w w' := by
  have HB := Aside0.mk (Below.refl w.heap.size w)
  have H : (traceryref01_Classes.l0 k a0 ([] : List Int) 0) = some r := h
  clear h
  have H' := Aside0.mk H
  clear H
  go_enter Try.func25, Try.ntmps25
  go_wp2
  go_loopg [3, 4] k (fun kq v3 v4 w' => ∃ (x3_1 : List Int) (x4_1 : Int), v4 = .int .i64 x4_1 ∧ Aside0 (traceryref01_Classes.l0 kq a0 x3_1 x4_1 = some r) ∧ Aside0 (kq ≤ k) ∧ Aside0 (Kd.R (Kd.int .i64) 3 w' w.heap.size (fun _ => True) v3 x3_1) ∧ Aside0 (Below w.heap.size w w'))
  case atStart => exact ⟨(([] : List Int)), (0), (by first | rfl | (simp; done) | (simp [*]; done)), H', ⟨Nat.le_refl _⟩, ⟨by first | exact Kd.R_nil _ _ _ _ _ | exact Kd.N_nil _ _ _ _ _ | exact Kd.V_nil _ _ _ _ _ | exact Kd.Q_nil _ _ _ _ _ | exact Kd.S_nil _ _ _ _ _⟩, ⟨by repeat (first | (with_reducible first | exact HB.out | apply below_alloc | apply pw_below_drewN | apply below_drew1) | exact HB.out)⟩⟩
  case round =>
    clear H'
    obtain ⟨x3_1, x4_1, rfl, HA, HK1, HO_3, HB⟩ := hrel
    cases gk with
    | zero => exact absurd HA.out (by simp [traceryref01_Classes.l0])
    | succ k1 =>
      have H := HA.out
      clear HA
      simp only [traceryref01_Classes.l0] at H
      by_cases c2 : x4_1 < (a0.size : Int)
      · rw [if_pos c2] at H
        have c2b0 : decide (x4_1 < (a0.size : Int)) = true := decide_eq_true c2
        clear c2
        replace H := Option.bind_eq_some_iff.mp H
        obtain ⟨⟨t139, t140⟩, A30, H⟩ := H
        replace H : (if t139 < 0 then (if x3_1.length < 17592186044416 then (traceryref01_Classes.l0 k1 a0 (x3_1 ++ [9]) (wrap64 (x4_1 + t140))) else (none)) else ((traceryref01_Class.f k1 t139).bind fun t144 => (if x3_1.length < 17592186044416 then (traceryref01_Classes.l0 k1 a0 (x3_1 ++ [t144]) (wrap64 (x4_1 + t140))) else (none)))) = some r := H
        have A3 := Aside0.mk A30
        clear A30
        by_cases c4 : t139 < 0
        · rw [if_pos c4] at H
          have c4b0 : decide (t139 < 0) = true := decide_eq_true c4
          clear c4
          by_cases c5 : x3_1.length < 17592186044416
          · rw [if_pos c5] at H
            have LMc5 := Aside0.mk c5
            clear c5
            obtain ⟨y141, hy141⟩ : ∃ y_ : List Int, y_ = (x3_1 ++ [9]) := ⟨_, rfl⟩
            replace H : (traceryref01_Classes.l0 k1 a0 y141 (wrap64 (x4_1 + t140))) = some r := by first | (rw [hy141]; with_reducible exact H) | (have H2_ := (Option.bind_some _ _).symm.trans H; rw [hy141]; with_reducible exact H2_) | (have H2_ := (Option.bind_some _ _).symm.trans H; with_reducible exact H2_) | with_reducible exact H | (rw [hy141]; exact H) | exact H
            have Ny141 := Aside0.mk hy141
            clear hy141
            have H' := Aside0.mk H
            clear H
            go_wp2_with (first | ((with_reducible refine gate_callee (f := 24) rfl ?_); refine goesL_ (some 14) rfl rfl Try.func24 (by kernel_rfl) rfl #[.string a0, .int .i64 x4_1] rfl (by (try simp only [List.map_toArray, List.map_cons, List.map_nil]); first | done | rfl | (simp only [List.length_drop, List.length_take]; rfl)) ?_; (with_reducible refine (traceryref01_Rune.calls k1 a0 x4_1 t139 t140 _ A3.out).mono ?_); rintro e w' ⟨rfl, ⟨nd, rfl⟩⟩; refine ⟨_, rfl, ?_⟩) | ((with_reducible refine gate_builtin (b := .append) (xs := #[.tmp 19, .tmp 20]) rfl ?_); at_builtin; refine Kd.R_append (Kd.int .i64) (w0 := w) w.heap.size rfl (.tmp 19) (.tmp 20) 47 3 (.int .i64 0) 8 rfl Try.underlying47 info3 rfl (by decide) (by omega) u3 x3_1 9 [.int .i64 9] (fun _ => True) (fun _ => False) rfl rfl ?aP (fun _ hk => hk.elim) ?aF ?aO ?aB ?aS ?aL ?_; (case aP => exact rfl); (case aB => exact (by repeat (first | (with_reducible first | exact HB.out | apply below_alloc | apply pw_below_drewN | apply below_drew1) | exact HB.out))); (case aF => exact (fun _ _ => trivial)); (case aO => exact (by (with_reducible repeat (first | apply Kd.R_alloc | apply Kd.R_drewN | apply Kd.R_drew)); exact HO_3.out)); (case aS => exact (below_size (by repeat (first | (with_reducible first | exact HB.out | apply below_alloc | apply pw_below_drewN | apply below_drew1) | exact HB.out)))); (case aL => have := LMc5.out; omega); intro v142 w6 ho hb hg hat; rw [← Ny141.out] at ho; have n0_ := Aside0.mk (hb); have n1_ := Aside0.mk (ho); clear HB; clear HO_3; have HB := n0_; have HO143 := n1_; clear n0_ n1_; clear ho hb hg hat))
            go_roundg k1
            case measure => have := HK1.out; omega
            case rel => exact ⟨(y141), (wrap64 (x4_1 + t140)), (by first | rfl | (simp; done) | (simp [*]; done)), H', ⟨by have := HK1.out; omega⟩, ⟨by (with_reducible repeat (first | apply Kd.R_alloc | apply Kd.R_drewN | apply Kd.R_drew)); exact HO143.out⟩, ⟨by repeat (first | (with_reducible first | exact HB.out | apply below_alloc | apply pw_below_drewN | apply below_drew1) | exact HB.out)⟩⟩
          · rw [if_neg c5] at H
            exact absurd H (by simp)
        · rw [if_neg c4] at H
          have c4b0 : decide (t139 < 0) = false := decide_eq_false c4
          clear c4
          replace H := Option.bind_eq_some_iff.mp H
          obtain ⟨t144, A70, H⟩ := H
          replace H : (if x3_1.length < 17592186044416 then (traceryref01_Classes.l0 k1 a0 (x3_1 ++ [t144]) (wrap64 (x4_1 + t140))) else (none)) = some r := H
          have A7 := Aside0.mk A70
          clear A70
          by_cases c8 : x3_1.length < 17592186044416
          · rw [if_pos c8] at H
            have LMc8 := Aside0.mk c8
            clear c8
            obtain ⟨y145, hy145⟩ : ∃ y_ : List Int, y_ = (x3_1 ++ [t144]) := ⟨_, rfl⟩
            replace H : (traceryref01_Classes.l0 k1 a0 y145 (wrap64 (x4_1 + t140))) = some r := by first | (rw [hy145]; with_reducible exact H) | (have H2_ := (Option.bind_some _ _).symm.trans H; rw [hy145]; with_reducible exact H2_) | (have H2_ := (Option.bind_some _ _).symm.trans H; with_reducible exact H2_) | with_reducible exact H | (rw [hy145]; exact H) | exact H
            have Ny145 := Aside0.mk hy145
            clear hy145
            have H' := Aside0.mk H
            clear H
            go_wp2_with (first | ((with_reducible refine gate_callee (f := 24) rfl ?_); refine goesL_ (some 14) rfl rfl Try.func24 (by kernel_rfl) rfl #[.string a0, .int .i64 x4_1] rfl (by (try simp only [List.map_toArray, List.map_cons, List.map_nil]); first | done | rfl | (simp only [List.length_drop, List.length_take]; rfl)) ?_; (with_reducible refine (traceryref01_Rune.calls k1 a0 x4_1 t139 t140 _ A3.out).mono ?_); rintro e w' ⟨rfl, ⟨nd, rfl⟩⟩; refine ⟨_, rfl, ?_⟩) | ((with_reducible refine gate_callee (f := 18) rfl ?_); refine goesL_ (some 24) rfl rfl Try.func18 (by kernel_rfl) rfl #[.int .i64 t139] rfl (by (try simp only [List.map_toArray, List.map_cons, List.map_nil]); first | done | rfl | (simp only [List.length_drop, List.length_take]; rfl)) ?_; (with_reducible refine (traceryref01_Class.calls k1 t139 t144 _ A7.out).mono ?_); rintro e w' ⟨rfl, ⟨nd, rfl⟩⟩; refine ⟨_, rfl, ?_⟩) | ((with_reducible refine gate_builtin (b := .append) (xs := #[.tmp 22, .tmp 25]) rfl ?_); at_builtin; refine Kd.R_append (Kd.int .i64) (w0 := w) w.heap.size rfl (.tmp 22) (.tmp 25) 47 3 (.int .i64 0) 8 rfl Try.underlying47 info3 rfl (by decide) (by omega) u3 x3_1 t144 [.int .i64 t144] (fun _ => True) (fun _ => False) rfl rfl ?aP (fun _ hk => hk.elim) ?aF ?aO ?aB ?aS ?aL ?_; (case aP => exact rfl); (case aB => exact (by repeat (first | (with_reducible first | exact HB.out | apply below_alloc | apply pw_below_drewN | apply below_drew1) | exact HB.out))); (case aF => exact (fun _ _ => trivial)); (case aO => exact (by (with_reducible repeat (first | apply Kd.R_alloc | apply Kd.R_drewN | apply Kd.R_drew)); exact HO_3.out)); (case aS => exact (below_size (by repeat (first | (with_reducible first | exact HB.out | apply below_alloc | apply pw_below_drewN | apply below_drew1) | exact HB.out)))); (case aL => have := LMc8.out; omega); intro v146 w9 ho hb hg hat; rw [← Ny145.out] at ho; have n0_ := Aside0.mk (hb); have n1_ := Aside0.mk (ho); clear HB; clear HO_3; have HB := n0_; have HO147 := n1_; clear n0_ n1_; clear ho hb hg hat))
            go_roundg k1
            case measure => have := HK1.out; omega
            case rel => exact ⟨(y145), (wrap64 (x4_1 + t140)), (by first | rfl | (simp; done) | (simp [*]; done)), H', ⟨by have := HK1.out; omega⟩, ⟨by (with_reducible repeat (first | apply Kd.R_alloc | apply Kd.R_drewN | apply Kd.R_drew)); exact HO147.out⟩, ⟨by repeat (first | (with_reducible first | exact HB.out | apply below_alloc | apply pw_below_drewN | apply below_drew1) | exact HB.out)⟩⟩
          · rw [if_neg c8] at H
            exact absurd H (by simp)
      · rw [if_neg c2] at H
        have c2b0 : decide (x4_1 < (a0.size : Int)) = false := decide_eq_false c2
        clear c2
        obtain rfl := Option.some.inj H
        go_wp2
        go_ret
        exact ⟨_, by first | rfl | trivial | (simp [errW_none, errW_some] <;> rfl) | (simp [*, errW_none, errW_some] <;> rfl), by (with_reducible repeat (first | apply Kd.R_alloc | apply Kd.R_drewN | apply Kd.R_drew)); exact HO_3.out, by repeat (first | (with_reducible first | exact HB.out | apply below_alloc | apply pw_below_drewN | apply below_drew1) | exact HB.out)⟩

end Go.Proofs.Ytdhnoclkepopgaa.PA
