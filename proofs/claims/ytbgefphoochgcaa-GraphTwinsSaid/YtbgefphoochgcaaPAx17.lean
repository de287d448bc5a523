-- Written by wip/tools/gprint.py of this repo (the kit's printer, some functions given).
import Derived.Test.YtbgefphoochgcaaPAx0
import Derived.Test.YtbgefphoochgcaaPAx10
import Derived.Test.YtbgefphoochgcaaPAx12
import Derived.Test.YtbgefphoochgcaaPAx16
namespace Go.Proofs.Ytbgefphoochgcaa.PA
open Go.RowKit Go.Proofs.YtbgefphoochgcaaW.PrintWords Go.Proofs.YtbgefphoochgcaaW.PrintLast Go.Proofs.YtbgefphoochgcaaW.PrintMore
attribute [local go_sem] max2_int min2_int max_two min_two max_three min_three max_four min_four   -- for this text's walks alone
set_option linter.unusedVariables false
set_option linter.unusedSimpArgs false
set_option linter.unnecessarySimpa false

/-! ### tracerylaw04_awake: function 9 -/
def tracerylaw04_awake.f (k : Nat)  : Option (Bool) := (some (([(⟨0, 1⟩ : S56), (⟨1, 1⟩ : S56)] : List (S56)) : List (S56))).bind fun y177 => ((graph_Whole.f k 2 y177).bind fun bt181 => ((graph_Darts.f k 2 y177 bt181.1 bt181.2 1).bind fun t187 => ((graph_Span.f k 2 y177 (([1] : List Int))).bind fun bt193 => (if (t187.length : Int) = 3 then (if 0 < (t187.length : Int) then (if (rd t187 0) = 1 then (if 1 < (t187.length : Int) then (if (rd t187 1) = 2 then (if 2 < (t187.length : Int) then (if (rd t187 2) = 3 then (if bt193.2.2 = 0 then (if (bt193.1.length : Int) = 1 then (if 0 < (bt193.1.length : Int) then (if (rd bt193.1 0) = 1 then (some ((bt193.2.1.length : Int) == 1)) else (some false)) else (none)) else (some false)) else (some false)) else (some false)) else (none)) else (some false)) else (none)) else (some false)) else (none)) else (some false)))))
theorem tracerylaw04_awake.mono : ∀ k, LeO (tracerylaw04_awake.f k ) (tracerylaw04_awake.f (k + 1) ) := by
  intro  k
  unfold tracerylaw04_awake.f
  repeat' first
      | (with_reducible exact graph_Darts.mono _ _ _ _ _ _)
      | (with_reducible exact graph_Span.mono _ _ _ _)
      | (with_reducible exact graph_Whole.mono _ _ _)
      | (with_reducible exact LeO.refl _)
      | (with_reducible exact LeO.none _)
      | (with_reducible refine LeO.ite ?_ ?_)
      | (with_reducible refine LeO.bind ?_ (fun _ => ?_))
      | exact graph_Darts.mono _ _ _ _ _ _
      | exact graph_Span.mono _ _ _ _
      | exact graph_Whole.mono _ _ _
      | exact LeO.none _
      | refine LeO.ite ?_ ?_
      | refine LeO.bind ?_ (fun _ => ?_)
set_option maxHeartbeats 8000000 in
set_option maxRecDepth 100000 in
theorem tracerylaw04_awake.calls_true (k : Nat)  (r : Bool) (w : World) (h : tracerylaw04_awake.f k  = some r) (hrt : r = true) :
    Calls Try.prog 9 #[] w fun e w' => e = .returned (.bool r) ∧ Below w.heap.size w w' := by
  have hu56 := Try.underlying56
  have hu24 := Try.underlying24
  have hu29 := Try.underlying29
  have HB := Aside0.mk (Below.refl w.heap.size w)
  have H : ((some (([(⟨0, 1⟩ : S56), (⟨1, 1⟩ : S56)] : List (S56)) : List (S56))).bind fun y177 => ((graph_Whole.f k 2 y177).bind fun bt181 => ((graph_Darts.f k 2 y177 bt181.1 bt181.2 1).bind fun t187 => ((graph_Span.f k 2 y177 (([1] : List Int))).bind fun bt193 => (if (t187.length : Int) = 3 then (if 0 < (t187.length : Int) then (if (rd t187 0) = 1 then (if 1 < (t187.length : Int) then (if (rd t187 1) = 2 then (if 2 < (t187.length : Int) then (if (rd t187 2) = 3 then (if bt193.2.2 = 0 then (if (bt193.1.length : Int) = 1 then (if 0 < (bt193.1.length : Int) then (if (rd bt193.1 0) = 1 then (some ((bt193.2.1.length : Int) == 1)) else (some false)) else (none)) else (some false)) else (some false)) else (some false)) else (none)) else (some false)) else (none)) else (some false)) else (none)) else (some false)))))) = some r := h
  clear h
  obtain ⟨y177, hy177⟩ : ∃ y_ : List (S56), y_ = (([(⟨0, 1⟩ : S56), (⟨1, 1⟩ : S56)] : List (S56))) := ⟨_, rfl⟩
  replace H : ((graph_Whole.f k 2 y177).bind fun bt181 => ((graph_Darts.f k 2 y177 bt181.1 bt181.2 1).bind fun t187 => ((graph_Span.f k 2 y177 (([1] : List Int))).bind fun bt193 => (if (t187.length : Int) = 3 then (if 0 < (t187.length : Int) then (if (rd t187 0) = 1 then (if 1 < (t187.length : Int) then (if (rd t187 1) = 2 then (if 2 < (t187.length : Int) then (if (rd t187 2) = 3 then (if bt193.2.2 = 0 then (if (bt193.1.length : Int) = 1 then (if 0 < (bt193.1.length : Int) then (if (rd bt193.1 0) = 1 then (some ((bt193.2.1.length : Int) == 1)) else (some false)) else (none)) else (some false)) else (some false)) else (some false)) else (none)) else (some false)) else (none)) else (some false)) else (none)) else (some false))))) = some r := by first | (rw [hy177]; with_reducible exact H) | (have H2_ := (Option.bind_some _ _).symm.trans H; rw [hy177]; with_reducible exact H2_) | (have H2_ := (Option.bind_some _ _).symm.trans H; with_reducible exact H2_) | with_reducible exact H | (rw [hy177]; exact H) | exact H
  have Ny177 := Aside0.mk hy177
  clear hy177
  replace H := Option.bind_eq_some_iff.mp H
  obtain ⟨⟨t181, t184⟩, A10, H⟩ := H
  replace H : ((graph_Darts.f k 2 y177 t181 t184 1).bind fun t187 => ((graph_Span.f k 2 y177 (([1] : List Int))).bind fun bt193 => (if (t187.length : Int) = 3 then (if 0 < (t187.length : Int) then (if (rd t187 0) = 1 then (if 1 < (t187.length : Int) then (if (rd t187 1) = 2 then (if 2 < (t187.length : Int) then (if (rd t187 2) = 3 then (if bt193.2.2 = 0 then (if (bt193.1.length : Int) = 1 then (if 0 < (bt193.1.length : Int) then (if (rd bt193.1 0) = 1 then (some ((bt193.2.1.length : Int) == 1)) else (some false)) else (none)) else (some false)) else (some false)) else (some false)) else (none)) else (some false)) else (none)) else (some false)) else (none)) else (some false)))) = some r := H
  have A1 := Aside0.mk A10
  clear A10
  replace H := Option.bind_eq_some_iff.mp H
  obtain ⟨t187, A20, H⟩ := H
  replace H : ((graph_Span.f k 2 y177 (([1] : List Int))).bind fun bt193 => (if (t187.length : Int) = 3 then (if 0 < (t187.length : Int) then (if (rd t187 0) = 1 then (if 1 < (t187.length : Int) then (if (rd t187 1) = 2 then (if 2 < (t187.length : Int) then (if (rd t187 2) = 3 then (if bt193.2.2 = 0 then (if (bt193.1.length : Int) = 1 then (if 0 < (bt193.1.length : Int) then (if (rd bt193.1 0) = 1 then (some ((bt193.2.1.length : Int) == 1)) else (some false)) else (none)) else (some false)) else (some false)) else (some false)) else (none)) else (some false)) else (none)) else (some false)) else (none)) else (some false))) = some r := H
  have A2 := Aside0.mk A20
  clear A20
  obtain ⟨y190, hy190⟩ : ∃ y_ : List Int, y_ = (([1] : List Int)) := ⟨_, rfl⟩
  replace H : ((graph_Span.f k 2 y177 y190).bind fun bt193 => (if (t187.length : Int) = 3 then (if 0 < (t187.length : Int) then (if (rd t187 0) = 1 then (if 1 < (t187.length : Int) then (if (rd t187 1) = 2 then (if 2 < (t187.length : Int) then (if (rd t187 2) = 3 then (if bt193.2.2 = 0 then (if (bt193.1.length : Int) = 1 then (if 0 < (bt193.1.length : Int) then (if (rd bt193.1 0) = 1 then (some ((bt193.2.1.length : Int) == 1)) else (some false)) else (none)) else (some false)) else (some false)) else (some false)) else (none)) else (some false)) else (none)) else (some false)) else (none)) else (some false))) = some r := by first | (rw [hy190]; with_reducible exact H) | (have H2_ := (Option.bind_some _ _).symm.trans H; rw [hy190]; with_reducible exact H2_) | (have H2_ := (Option.bind_some _ _).symm.trans H; with_reducible exact H2_) | with_reducible exact H | (rw [hy190]; exact H) | exact H
  have Ny190 := Aside0.mk hy190
  clear hy190
  replace H := Option.bind_eq_some_iff.mp H
  obtain ⟨⟨t193, t196, t199⟩, A30, H⟩ := H
  replace H : (if (t187.length : Int) = 3 then (if 0 < (t187.length : Int) then (if (rd t187 0) = 1 then (if 1 < (t187.length : Int) then (if (rd t187 1) = 2 then (if 2 < (t187.length : Int) then (if (rd t187 2) = 3 then (if t199 = 0 then (if (t193.length : Int) = 1 then (if 0 < (t193.length : Int) then (if (rd t193 0) = 1 then (some ((t196.length : Int) == 1)) else (some false)) else (none)) else (some false)) else (some false)) else (some false)) else (none)) else (some false)) else (none)) else (some false)) else (none)) else (some false)) = some r := H
  have A3 := Aside0.mk A30
  clear A30
  by_cases c4 : (t187.length : Int) = 3
  · rw [if_pos c4] at H
    have c4b0 : ((t187.length : Int) == 3) = true := beq_iff_eq.mpr c4
    have c4b1 : ((t187.length : Int) != 3) = false := bne_eq_false_iff_eq.mpr c4
    clear c4
    by_cases c5 : 0 < (t187.length : Int)
    · rw [if_pos c5] at H
      have c5b0 : decide (0 < (t187.length : Int)) = true := decide_eq_true c5
      have c5b1 : decide (0 < t187.length) = true := decide_eq_true (by omega)
      clear c5
      by_cases c6 : (rd t187 0) = 1
      · rw [if_pos c6] at H
        have c6b0 : ((rd t187 0) == 1) = true := beq_iff_eq.mpr c6
        have c6b1 : ((rd t187 0) != 1) = false := bne_eq_false_iff_eq.mpr c6
        clear c6
        by_cases c7 : 1 < (t187.length : Int)
        · rw [if_pos c7] at H
          have c7b0 : decide (1 < (t187.length : Int)) = true := decide_eq_true c7
          have c7b1 : decide (1 < t187.length) = true := decide_eq_true (by omega)
          clear c7
          by_cases c8 : (rd t187 1) = 2
          · rw [if_pos c8] at H
            have c8b0 : ((rd t187 1) == 2) = true := beq_iff_eq.mpr c8
            have c8b1 : ((rd t187 1) != 2) = false := bne_eq_false_iff_eq.mpr c8
            clear c8
            by_cases c9 : 2 < (t187.length : Int)
            · rw [if_pos c9] at H
              have c9b0 : decide (2 < (t187.length : Int)) = true := decide_eq_true c9
              have c9b1 : decide (2 < t187.length) = true := decide_eq_true (by omega)
              clear c9
              by_cases c10 : (rd t187 2) = 3
              · rw [if_pos c10] at H
                have c10b0 : ((rd t187 2) == 3) = true := beq_iff_eq.mpr c10
                have c10b1 : ((rd t187 2) != 3) = false := bne_eq_false_iff_eq.mpr c10
                clear c10
                by_cases c11 : t199 = 0
                · rw [if_pos c11] at H
                  have c11b0 : (t199 == 0) = true := beq_iff_eq.mpr c11
                  have c11b1 : (t199 != 0) = false := bne_eq_false_iff_eq.mpr c11
                  clear c11
                  by_cases c12 : (t193.length : Int) = 1
                  · rw [if_pos c12] at H
                    have c12b0 : ((t193.length : Int) == 1) = true := beq_iff_eq.mpr c12
                    have c12b1 : ((t193.length : Int) != 1) = false := bne_eq_false_iff_eq.mpr c12
                    clear c12
                    by_cases c13 : 0 < (t193.length : Int)
                    · rw [if_pos c13] at H
                      have c13b0 : decide (0 < (t193.length : Int)) = true := decide_eq_true c13
                      have c13b1 : decide (0 < t193.length) = true := decide_eq_true (by omega)
                      clear c13
                      by_cases c14 : (rd t193 0) = 1
                      · rw [if_pos c14] at H
                        have c14b0 : ((rd t193 0) == 1) = true := beq_iff_eq.mpr c14
                        have c14b1 : ((rd t193 0) != 1) = false := bne_eq_false_iff_eq.mpr c14
                        clear c14
                        obtain rfl := Option.some.inj H
                        go_enter Try.func9, Try.ntmps9
                        try go_wp2_with (first | ((with_reducible refine gate_dst (N := 7) rfl ?_); (try (refine gate_guard (by rfl) ?_; dsimp only)); refine Kd.R_lit k56 _ 56 ?hg (N := 7) ?hd (xs := ([(⟨0, 1⟩ : S56), (⟨1, 1⟩ : S56)] : List (S56))) (inner := [.int .i64 0, .int .i64 1, .int .i64 1, .int .i64 1]) (ok := fun _ => True) (okp := fun _ => True) ?hr ?hp (fun _ hk => hk) trivial (Below.refl _ _) (Nat.le_refl _) (by simp) ?_; (case hd => rfl); (case hg => rfl); (case hr => first | (go_simp; done) | (go_simp; rfl)); (case hp => exact (Reps.c2 (show Kd.M k56 _ _ _ (⟨0, 1⟩ : S56) [.int .i64 0, .int .i64 1] from (k56_mkM _ _ _ (⟨0, 1⟩ : S56) )) (Reps.c2 (show Kd.M k56 _ _ _ (⟨1, 1⟩ : S56) [.int .i64 1, .int .i64 1] from (k56_mkM _ _ _ (⟨1, 1⟩ : S56) )) (Reps.none _ _)))); intro v178 w15 ho16 hb hg_ hnew_; clear hg_ hnew_; (first | rw [← Ny177.out] at ho16 | (simp only [Int.reduceToNat] at ho16; rw [← Ny177.out] at ho16)); have n0_ := Aside0.mk (Kd.R_lower ho16 (below_size (by repeat (first | (with_reducible first | exact HB.out | apply below_alloc | apply pw_below_drewN | apply below_drew1) | exact HB.out)))); have n1_ := Aside0.mk (below_step (by repeat (first | (with_reducible first | exact HB.out | apply below_alloc | apply pw_below_drewN | apply below_drew1) | exact HB.out)) hb); clear HB; have HO179 := n0_; have HB := n1_; clear n0_ n1_; clear hb ho16; obtain ⟨Ao17, co17, eo17⟩ := Kd.R_slice HO179.out; subst eo17) | ((with_reducible refine gate_dst (N := 1) rfl ?_); (try (refine gate_guard (by rfl) ?_; dsimp only)); refine box_event ?hg (N := 1) ?hd (cs := #[.int .i64 0, .slice none 0 0]) (t := 24) ?hr ?_; (case hd => rfl); (case hg => rfl); (case hr => first | (go_simp; done) | (go_simp; rfl)); intro gb180 hg w18 hbox hb; have n0_ := Aside0.mk (Kd.R_below (by (with_reducible repeat (first | apply Kd.R_alloc | apply Kd.R_drewN | apply Kd.R_drew)); exact HO179.out) hb); have n1_ := Aside0.mk (below_step (by repeat (first | (with_reducible first | exact HB.out | apply below_alloc | apply pw_below_drewN | apply below_drew1) | exact HB.out)) hb); have n2_ := Aside0.mk (hbox); have n3_ := Aside0.mk ((by rw [hg]; exact (below_size (by repeat (first | (with_reducible first | exact HB.out | apply below_alloc | apply pw_below_drewN | apply below_drew1) | exact HB.out))) : w.heap.size ≤ gb180)); have n4_ := Aside0.mk ((by rw [hg]; exact (below_size (by repeat (first | (with_reducible first | exact HB.out | apply below_alloc | apply pw_below_drewN | apply below_drew1) | exact HB.out))) : w.heap.size ≤ gb180)); clear HO179; clear HB; have HO179 := n0_; have HB := n1_; have BK180 := n2_; have GW180 := n3_; have GE180 := n4_; clear n0_ n1_ n2_ n3_ n4_; clear hb hbox hg; have hcz19_0 : w18.cell? ⟨gb180, 0, none⟩ = some (.int .i64 0) := (blk_cell BK180.out 0).trans rfl; have hcz19_1 : w18.cell? ⟨gb180, 1, none⟩ = some (.slice none 0 0) := (blk_cell BK180.out 1).trans rfl; have hfz19_0 := blk_frozen BK180.out 0; have hfz19_1 := blk_frozen BK180.out 1))
                        have n0_ : Aside0 (Kd.R k56 56 ((w18.setCell ⟨gb180, 0, none⟩ (.int .i64 2)).setCell ⟨gb180, 1, none⟩ (.slice Ao17 y177.length co17)) w.heap.size (fun _ => True) (.slice Ao17 y177.length co17) y177) := ⟨by (with_reducible repeat (first | apply Kd.R_alloc | apply Kd.R_drewN | apply Kd.R_drew)); exact Kd.R_mono (Kd.R_far (p := ⟨gb180, 1, none⟩) (Kd.R_far (p := ⟨gb180, 0, none⟩) (Kd.R_types HO179.out BK180.out (by decide)) (fun _ hk => hk.2) (.int .i64 2)) (fun _ hk => hk.2) (.slice Ao17 y177.length co17)) (fun _ hk => trivial)⟩
                        have n1_ : Aside0 (((w18.setCell ⟨gb180, 0, none⟩ (.int .i64 2)).setCell ⟨gb180, 1, none⟩ (.slice Ao17 y177.length co17)).heap[gb180]? = some (.cells #[.int .i64 2, .slice Ao17 y177.length co17] 24 (0, 0))) := ⟨by (with_reducible repeat (first | refine blk_drewN ?_ _ | refine blk_drew ?_ | refine blk_alloc ?_ _)); refine blk_put (cs := #[.int .i64 2, .slice none 0 0]) ?_ 1 _ rfl; (with_reducible repeat (first | refine blk_drewN ?_ _ | refine blk_drew ?_ | refine blk_alloc ?_ _)); refine blk_put (cs := #[.int .i64 0, .slice none 0 0]) ?_ 0 _ rfl; (with_reducible repeat (first | refine blk_drewN ?_ _ | refine blk_drew ?_ | refine blk_alloc ?_ _)); exact BK180.out⟩
                        have n2_ : Aside0 (Below w.heap.size w ((w18.setCell ⟨gb180, 0, none⟩ (.int .i64 2)).setCell ⟨gb180, 1, none⟩ (.slice Ao17 y177.length co17))) := ⟨by repeat (first | (with_reducible first | exact HB.out | apply below_alloc | apply pw_below_drewN | apply below_drew1 | refine below_set ?_ GE180.out) | exact HB.out)⟩
                        (try clear HO179)
                        (try clear BK180)
                        (try clear HB)
                        generalize ((w18.setCell ⟨gb180, 0, none⟩ (.int .i64 2)).setCell ⟨gb180, 1, none⟩ (.slice Ao17 y177.length co17)) = w20 at n0_ n1_ n2_ ⊢
                        have HO179 := n0_
                        have BK180 := n1_
                        have HB := n2_
                        clear n0_ n1_ n2_
                        have n0_ := Aside0.mk (Kd.R_drew HO179.out)
                        have n1_ := Aside0.mk (blk_drew BK180.out)
                        have n2_ := Aside0.mk (below_drew1 HB.out)
                        clear HO179
                        clear BK180
                        clear HB
                        have HO179 := n0_
                        have BK180 := n1_
                        have HB := n2_
                        clear n0_ n1_ n2_
                        refine start_ (n := 5) (S := fun w' => w'.cell? ⟨gb180, 0, none⟩ = some (.int .i64 2) ∧ w'.cell? ⟨gb180, 1, none⟩ = some (.slice Ao17 y177.length co17)) (ds := []) #[false, false, false, false, false] (by kernel_rfl) rfl rfl ⟨(blk_cell BK180.out 0).trans rfl, (blk_cell BK180.out 1).trans rfl⟩ (fun hHeld => ?_)
                        generalize w20.drew = w21 at HO179 BK180 HB hHeld ⊢
                        refine take_ (i := 0) (N := some 9) (v := ?_) (a' := ?_) #[true, false, false, false, false] rfl rfl (by kernel_rfl) (fun _ _ _ h => h) (Or.inl ⟨by rfl, ?_⟩) hHeld ?_ ?_
                        rotate_left
                        · rintro w' ⟨s0, s1⟩
                          go_simp
                          with_reducible rfl
                        rotate_left
                        · simp only [Act.put, List.setIfInBounds_toArray, List.set_cons_zero, List.set_cons_succ, i64_w, i32_w]
                          rfl
                        refine take_ (i := 1) (N := some 10) (v := ?_) (a' := ?_) #[true, true, false, false, false] rfl rfl (by kernel_rfl) (fun _ _ _ h => h) (Or.inl ⟨by rfl, ?_⟩) hHeld ?_ ?_
                        rotate_left
                        · rintro w' ⟨s0, s1⟩
                          go_simp
                          with_reducible rfl
                        rotate_left
                        · simp only [Act.put, List.setIfInBounds_toArray, List.set_cons_zero, List.set_cons_succ, i64_w, i32_w]
                          rfl
                        refine one_ (i := 2) (N := some 11) #[true, true, true, false, false] rfl rfl (by kernel_rfl) (by decide) (fun K hK => ?_)
                        refine goes_ Try.func15 (by kernel_rfl) rfl #[.agg #[.int .i64 2, .slice Ao17 y177.length co17]] (by rfl) rfl rfl (by (try simp only [List.map_toArray, List.map_cons, List.map_nil]); first | done | rfl | (simp only [List.length_drop, List.length_take]; rfl)) ?_
                        with_reducible refine (graph_Whole.calls k 2 _ _ y177 t181 t184 _ ?side1 ?side2 A1.out).mono ?_
                        (case side1 => repeat (first | exact (Kd.R_reads' HO179.out).2.2 | (with_reducible refine Kd.C_alloc ?_ _) | (with_reducible refine Kd.C_drewN ?_ _) | (with_reducible refine Kd.C_drew ?_)))
                        (case side2 => exact (Kd.R_reads' HO179.out).2.1)
                        rintro e w22 ⟨v182, v185, rfl, ho0, ho1, hb⟩
                        refine ⟨_, rfl, ?_⟩
                        have n0_ := Aside0.mk (Kd.R_below (by (with_reducible repeat (first | apply Kd.R_alloc | apply Kd.R_drewN | apply Kd.R_drew)); exact HO179.out) hb)
                        have n1_ := Aside0.mk (Kd.R_lower ho0 (below_size (by repeat (first | (with_reducible first | exact HB.out | apply below_alloc | apply pw_below_drewN | apply below_drew1 | refine below_set ?_ GE180.out) | exact HB.out))))
                        have n2_ := Aside0.mk (Kd.R_lower ho1 (below_size (by repeat (first | (with_reducible first | exact HB.out | apply below_alloc | apply pw_below_drewN | apply below_drew1 | refine below_set ?_ GE180.out) | exact HB.out))))
                        have n3_ := Aside0.mk (blk_below (g := gb180) (o := .cells #[.int .i64 2, .slice Ao17 y177.length co17] 24 (0, 0)) (by (with_reducible repeat (first | refine blk_drewN ?_ _ | refine blk_drew ?_ | refine blk_alloc ?_ _)); exact BK180.out) hb)
                        have n4_ := Aside0.mk (below_step (by repeat (first | (with_reducible first | exact HB.out | apply below_alloc | apply pw_below_drewN | apply below_drew1 | refine below_set ?_ GE180.out) | exact HB.out)) hb)
                        clear HO179
                        clear BK180
                        clear HB
                        have HO179 := n0_
                        have HO183 := n1_
                        have HO186 := n2_
                        have BK180 := n3_
                        have HB := n4_
                        clear n0_ n1_ n2_ n3_ n4_
                        (try clear hb)
                        (try clear hb2)
                        (try clear hk)
                        (try clear hi)
                        (try clear ho0)
                        (try clear ho1)
                        obtain ⟨Ao23, co23, eo23⟩ := Kd.R_slice HO183.out
                        (first | subst eo23 | (injection eo23 with f1_ f2_ f3_; have f4_ := f1_.symm; have f5_ := f3_.symm; clear f1_ f2_ f3_; subst f4_; subst f5_))
                        obtain ⟨Ao24, co24, eo24⟩ := Kd.R_slice HO186.out
                        (first | subst eo24 | (injection eo24 with f1_ f2_ f3_; have f4_ := f1_.symm; have f5_ := f3_.symm; clear f1_ f2_ f3_; subst f4_; subst f5_))
                        refine hK.out _ _ ⟨(blk_cell BK180.out 0).trans rfl, (blk_cell BK180.out 1).trans rfl⟩ (fun hHeld => ?_)
                        clear hK K
                        refine norm_ (a' := ?_) ?_ ?_
                        rotate_left
                        · show Act.put _ (some 11) _ = _
                          simp only [Act.put, List.setIfInBounds_toArray, List.set_cons_zero, List.set_cons_succ, i64_w, i32_w]
                          rfl
                        refine one_ (i := 3) (N := some 12) #[true, true, true, true, false] rfl rfl (by kernel_rfl) (by decide) (fun K hK => ?_)
                        refine goes_ Try.func14 (by kernel_rfl) rfl #[.agg #[.int .i64 2, .slice Ao17 y177.length co17], .agg #[.slice Ao23 t181.length co23, .slice Ao24 t184.length co24], .int .i64 1] (by rfl) rfl rfl (by (try simp only [List.map_toArray, List.map_cons, List.map_nil]); first | done | rfl | (simp only [List.length_drop, List.length_take]; rfl)) ?_
                        with_reducible refine (graph_Darts.calls k 2 _ _ y177 _ _ t181 _ _ t184 1 t187 _ ?side1 ?side2 ?side3 ?side4 ?side5 ?side6 A2.out).mono ?_
                        (case side1 => repeat (first | exact (Kd.R_reads' HO179.out).2.2 | (with_reducible refine Kd.C_alloc ?_ _) | (with_reducible refine Kd.C_drewN ?_ _) | (with_reducible refine Kd.C_drew ?_)))
                        (case side2 => exact (Kd.R_reads' HO179.out).2.1)
                        (case side3 => repeat (first | exact (Kd.R_reads' HO183.out).2.2 | (with_reducible refine Kd.C_alloc ?_ _) | (with_reducible refine Kd.C_drewN ?_ _) | (with_reducible refine Kd.C_drew ?_)))
                        (case side4 => exact (Kd.R_reads' HO183.out).2.1)
                        (case side5 => repeat (first | exact (Kd.R_reads' HO186.out).2.2 | (with_reducible refine Kd.C_alloc ?_ _) | (with_reducible refine Kd.C_drewN ?_ _) | (with_reducible refine Kd.C_drew ?_)))
                        (case side6 => exact (Kd.R_reads' HO186.out).2.1)
                        rintro e w25 ⟨v188, rfl, ho0, hb⟩
                        refine ⟨_, rfl, ?_⟩
                        have n0_ := Aside0.mk (Kd.R_below (by (with_reducible repeat (first | apply Kd.R_alloc | apply Kd.R_drewN | apply Kd.R_drew)); exact HO179.out) hb)
                        have n1_ := Aside0.mk (Kd.R_elder' (by (with_reducible repeat (first | apply Kd.R_alloc | apply Kd.R_drewN | apply Kd.R_drew)); exact HO183.out) (Kd.R_base ho0) hb)
                        have n2_ := Aside0.mk (Kd.R_elder' (by (with_reducible repeat (first | apply Kd.R_alloc | apply Kd.R_drewN | apply Kd.R_drew)); exact HO186.out) (Kd.R_base ho0) hb)
                        have n3_ := Aside0.mk (Kd.R_lower (Kd.R_new' (Kd.R_new' ho0 (Kd.R_lt (by (with_reducible repeat (first | apply Kd.R_alloc | apply Kd.R_drewN | apply Kd.R_drew)); exact HO183.out))) (Kd.R_lt (by (with_reducible repeat (first | apply Kd.R_alloc | apply Kd.R_drewN | apply Kd.R_drew)); exact HO186.out))) (below_size (by repeat (first | (with_reducible first | exact HB.out | apply below_alloc | apply pw_below_drewN | apply below_drew1 | refine below_set ?_ GE180.out) | exact HB.out))))
                        have n4_ := Aside0.mk (blk_below (g := gb180) (o := .cells #[.int .i64 2, .slice Ao17 y177.length co17] 24 (0, 0)) (by (with_reducible repeat (first | refine blk_drewN ?_ _ | refine blk_drew ?_ | refine blk_alloc ?_ _)); exact BK180.out) hb)
                        have n5_ := Aside0.mk (below_step (by repeat (first | (with_reducible first | exact HB.out | apply below_alloc | apply pw_below_drewN | apply below_drew1 | refine below_set ?_ GE180.out) | exact HB.out)) hb)
                        clear HO179
                        clear HO183
                        clear HO186
                        clear BK180
                        clear HB
                        have HO179 := n0_
                        have HO183 := n1_
                        have HO186 := n2_
                        have HO189 := n3_
                        have BK180 := n4_
                        have HB := n5_
                        clear n0_ n1_ n2_ n3_ n4_ n5_
                        (try clear hb)
                        (try clear hb2)
                        (try clear hk)
                        (try clear hi)
                        (try clear ho0)
                        refine hK.out _ _ ⟨(blk_cell BK180.out 0).trans rfl, (blk_cell BK180.out 1).trans rfl⟩ (fun hHeld => ?_)
                        clear hK K
                        refine norm_ (a' := ?_) ?_ ?_
                        rotate_left
                        · show Act.put _ (some 12) _ = _
                          simp only [Act.put, List.setIfInBounds_toArray, List.set_cons_zero, List.set_cons_succ, i64_w, i32_w]
                          rfl
                        refine pure_ (i := 4) (N := some 2) (v := ?_) (a' := ?_) #[true, true, true, true, true] rfl rfl (by kernel_rfl) (fun _ _ _ h => h) (Or.inl ⟨by rfl, ?_⟩) ?_ ?_
                        rotate_left
                        · intro w'
                          go_simp
                          with_reducible rfl
                        rotate_left
                        · simp only [Act.put, List.setIfInBounds_toArray, List.set_cons_zero, List.set_cons_succ, i64_w, i32_w]
                          rfl
                        refine done_ (by kernel_rfl) ?_
                        have hcz26_0 : w25.cell? ⟨gb180, 0, none⟩ = some (.int .i64 2) := (blk_cell BK180.out 0).trans rfl
                        have hcz26_1 : w25.cell? ⟨gb180, 1, none⟩ = some (.slice Ao17 y177.length co17) := (blk_cell BK180.out 1).trans rfl
                        have hfz26_0 := blk_frozen BK180.out 0
                        have hfz26_1 := blk_frozen BK180.out 1
                        try go_wp2_with (first | ((with_reducible refine gate_dst (N := 15) rfl ?_); (try (refine gate_guard (by rfl) ?_; dsimp only)); refine Kd.R_lit (Kd.int .i64) _ 3 ?hg (N := 15) ?hd (xs := ([1] : List Int)) (inner := [.int .i64 1]) (ok := fun _ => True) (okp := fun _ => True) ?hr ?hp (fun _ hk => hk) trivial (Below.refl _ _) (Nat.le_refl _) (by simp) ?_; (case hd => rfl); (case hg => rfl); (case hr => first | (go_simp; done) | (go_simp; rfl)); (case hp => exact (Reps.one (show Kd.M (Kd.int .i64) _ _ _ 1 [.int .i64 1] from rfl) (Reps.none _ _))); intro v191 w27 ho28 hb hg_ hnew_; clear hg_ hnew_; (first | rw [← Ny190.out] at ho28 | (simp only [Int.reduceToNat] at ho28; rw [← Ny190.out] at ho28)); have n0_ := Aside0.mk (Kd.R_below (by (with_reducible repeat (first | apply Kd.R_alloc | apply Kd.R_drewN | apply Kd.R_drew)); exact HO179.out) hb); have n1_ := Aside0.mk (Kd.R_elder' (by (with_reducible repeat (first | apply Kd.R_alloc | apply Kd.R_drewN | apply Kd.R_drew)); exact HO183.out) (Kd.R_base ho28) hb); have n2_ := Aside0.mk (Kd.R_elder' (by (with_reducible repeat (first | apply Kd.R_alloc | apply Kd.R_drewN | apply Kd.R_drew)); exact HO186.out) (Kd.R_base ho28) hb); have n3_ := Aside0.mk (Kd.R_elder' (by (with_reducible repeat (first | apply Kd.R_alloc | apply Kd.R_drewN | apply Kd.R_drew)); exact HO189.out) (Kd.R_base ho28) hb); have n4_ := Aside0.mk (Kd.R_lower (Kd.R_new' (Kd.R_new' (Kd.R_new' ho28 (Kd.R_lt (by (with_reducible repeat (first | apply Kd.R_alloc | apply Kd.R_drewN | apply Kd.R_drew)); exact HO183.out))) (Kd.R_lt (by (with_reducible repeat (first | apply Kd.R_alloc | apply Kd.R_drewN | apply Kd.R_drew)); exact HO186.out))) (Kd.R_lt (by (with_reducible repeat (first | apply Kd.R_alloc | apply Kd.R_drewN | apply Kd.R_drew)); exact HO189.out))) (below_size (by repeat (first | (with_reducible first | exact HB.out | apply below_alloc | apply pw_below_drewN | apply below_drew1 | refine below_set ?_ GE180.out) | exact HB.out)))); have n5_ := Aside0.mk (blk_below (g := gb180) (o := .cells #[.int .i64 2, .slice Ao17 y177.length co17] 24 (0, 0)) (by (with_reducible repeat (first | refine blk_drewN ?_ _ | refine blk_drew ?_ | refine blk_alloc ?_ _)); exact BK180.out) hb); have n6_ := Aside0.mk (below_step (by repeat (first | (with_reducible first | exact HB.out | apply below_alloc | apply pw_below_drewN | apply below_drew1 | refine below_set ?_ GE180.out) | exact HB.out)) hb); clear HO179; clear HO183; clear HO186; clear HO189; clear BK180; clear HB; have HO179 := n0_; have HO183 := n1_; have HO186 := n2_; have HO189 := n3_; have HO192 := n4_; have BK180 := n5_; have HB := n6_; clear n0_ n1_ n2_ n3_ n4_ n5_ n6_; clear hb ho28; obtain ⟨Ao29, co29, eo29⟩ := Kd.R_slice HO192.out; subst eo29) | ((with_reducible refine gate_callee (f := 18) rfl ?_); refine goesL_ (some 16) rfl rfl Try.func18 (by kernel_rfl) rfl #[.agg #[.int .i64 2, .slice Ao17 y177.length co17], .slice Ao29 y190.length co29] rfl (by (try simp only [List.map_toArray, List.map_cons, List.map_nil]); first | done | rfl | (simp only [List.length_drop, List.length_take]; rfl)) ?_; (with_reducible refine (graph_Span.calls k 2 _ _ y177 _ _ y190 t193 t196 t199 _ ?side1 ?side2 ?side3 ?side4 A3.out).mono ?_); (case side1 => repeat (first | exact (Kd.R_reads' HO179.out).2.2 | (with_reducible refine Kd.C_alloc ?_ _) | (with_reducible refine Kd.C_drewN ?_ _) | (with_reducible refine Kd.C_drew ?_))); (case side2 => exact (Kd.R_reads' HO179.out).2.1); (case side3 => repeat (first | exact (Kd.R_reads' HO192.out).2.2 | (with_reducible refine Kd.C_alloc ?_ _) | (with_reducible refine Kd.C_drewN ?_ _) | (with_reducible refine Kd.C_drew ?_))); (case side4 => exact (Kd.R_reads' HO192.out).2.1); rintro e w30 ⟨v194, v197, rfl, ho0, ho1, hb⟩; refine ⟨_, rfl, ?_⟩; have n0_ := Aside0.mk (Kd.R_below (by (with_reducible repeat (first | apply Kd.R_alloc | apply Kd.R_drewN | apply Kd.R_drew)); exact HO179.out) hb); have n1_ := Aside0.mk (Kd.R_mono (Kd.R_told (Kd.R_told (Kd.R_old (by (with_reducible repeat (first | apply Kd.R_alloc | apply Kd.R_drewN | apply Kd.R_drew)); exact HO183.out) hb) (Kd.R_base ho0)) (Kd.R_base ho1)) (fun _ h_ => h_.1)); have n2_ := Aside0.mk (Kd.R_mono (Kd.R_told (Kd.R_told (Kd.R_old (by (with_reducible repeat (first | apply Kd.R_alloc | apply Kd.R_drewN | apply Kd.R_drew)); exact HO186.out) hb) (Kd.R_base ho0)) (Kd.R_base ho1)) (fun _ h_ => h_.1)); have n3_ := Aside0.mk (Kd.R_mono (Kd.R_told (Kd.R_told (Kd.R_old (by (with_reducible repeat (first | apply Kd.R_alloc | apply Kd.R_drewN | apply Kd.R_drew)); exact HO189.out) hb) (Kd.R_base ho0)) (Kd.R_base ho1)) (fun _ h_ => h_.1)); have n4_ := Aside0.mk (Kd.R_mono (Kd.R_told (Kd.R_told (Kd.R_old (by (with_reducible repeat (first | apply Kd.R_alloc | apply Kd.R_drewN | apply Kd.R_drew)); exact HO192.out) hb) (Kd.R_base ho0)) (Kd.R_base ho1)) (fun _ h_ => h_.1)); have n5_ := Aside0.mk (Kd.R_lower (Kd.R_new' (Kd.R_new' (Kd.R_new' (Kd.R_new' ho0 (Kd.R_lt (by (with_reducible repeat (first | apply Kd.R_alloc | apply Kd.R_drewN | apply Kd.R_drew)); exact HO183.out))) (Kd.R_lt (by (with_reducible repeat (first | apply Kd.R_alloc | apply Kd.R_drewN | apply Kd.R_drew)); exact HO186.out))) (Kd.R_lt (by (with_reducible repeat (first | apply Kd.R_alloc | apply Kd.R_drewN | apply Kd.R_drew)); exact HO189.out))) (Kd.R_lt (by (with_reducible repeat (first | apply Kd.R_alloc | apply Kd.R_drewN | apply Kd.R_drew)); exact HO192.out))) (below_size (by repeat (first | (with_reducible first | exact HB.out | apply below_alloc | apply pw_below_drewN | apply below_drew1 | refine below_set ?_ GE180.out) | exact HB.out)))); have n6_ := Aside0.mk (Kd.R_lower (Kd.R_new' (Kd.R_new' (Kd.R_new' (Kd.R_new' ho1 (Kd.R_lt (by (with_reducible repeat (first | apply Kd.R_alloc | apply Kd.R_drewN | apply Kd.R_drew)); exact HO183.out))) (Kd.R_lt (by (with_reducible repeat (first | apply Kd.R_alloc | apply Kd.R_drewN | apply Kd.R_drew)); exact HO186.out))) (Kd.R_lt (by (with_reducible repeat (first | apply Kd.R_alloc | apply Kd.R_drewN | apply Kd.R_drew)); exact HO189.out))) (Kd.R_lt (by (with_reducible repeat (first | apply Kd.R_alloc | apply Kd.R_drewN | apply Kd.R_drew)); exact HO192.out))) (below_size (by repeat (first | (with_reducible first | exact HB.out | apply below_alloc | apply pw_below_drewN | apply below_drew1 | refine below_set ?_ GE180.out) | exact HB.out)))); have n7_ := Aside0.mk (blk_below (g := gb180) (o := .cells #[.int .i64 2, .slice Ao17 y177.length co17] 24 (0, 0)) (by (with_reducible repeat (first | refine blk_drewN ?_ _ | refine blk_drew ?_ | refine blk_alloc ?_ _)); exact BK180.out) hb); have n8_ := Aside0.mk (below_step (by repeat (first | (with_reducible first | exact HB.out | apply below_alloc | apply pw_below_drewN | apply below_drew1 | refine below_set ?_ GE180.out) | exact HB.out)) hb); clear HO179; clear HO183; clear HO186; clear HO189; clear HO192; clear BK180; clear HB; have HO179 := n0_; have HO183 := n1_; have HO186 := n2_; have HO189 := n3_; have HO192 := n4_; have HO195 := n5_; have HO198 := n6_; have BK180 := n7_; have HB := n8_; clear n0_ n1_ n2_ n3_ n4_ n5_ n6_ n7_ n8_; (try clear hb); (try clear hb2); (try clear hk); (try clear hi); (try clear ho0); (try clear ho1)) | ((with_reducible refine gate_dst (N := 3) rfl ?_); (try (refine gate_guard (by rfl) ?_; dsimp only)); refine box_event ?hg (N := 3) ?hd (cs := #[.slice none 0 0, .slice none 0 0]) (t := 29) ?hr ?_; (case hd => rfl); (case hg => rfl); (case hr => first | (go_simp; done) | (go_simp; rfl)); intro gb200 hg w31 hbox hb; have n0_ := Aside0.mk (Kd.R_below (by (with_reducible repeat (first | apply Kd.R_alloc | apply Kd.R_drewN | apply Kd.R_drew)); exact HO179.out) hb); have n1_ := Aside0.mk (Kd.R_below (by (with_reducible repeat (first | apply Kd.R_alloc | apply Kd.R_drewN | apply Kd.R_drew)); exact HO183.out) hb); have n2_ := Aside0.mk (Kd.R_below (by (with_reducible repeat (first | apply Kd.R_alloc | apply Kd.R_drewN | apply Kd.R_drew)); exact HO186.out) hb); have n3_ := Aside0.mk (Kd.R_below (by (with_reducible repeat (first | apply Kd.R_alloc | apply Kd.R_drewN | apply Kd.R_drew)); exact HO189.out) hb); have n4_ := Aside0.mk (Kd.R_below (by (with_reducible repeat (first | apply Kd.R_alloc | apply Kd.R_drewN | apply Kd.R_drew)); exact HO192.out) hb); have n5_ := Aside0.mk (Kd.R_below (by (with_reducible repeat (first | apply Kd.R_alloc | apply Kd.R_drewN | apply Kd.R_drew)); exact HO195.out) hb); have n6_ := Aside0.mk (Kd.R_below (by (with_reducible repeat (first | apply Kd.R_alloc | apply Kd.R_drewN | apply Kd.R_drew)); exact HO198.out) hb); have n7_ := Aside0.mk (blk_below (g := gb180) (o := .cells #[.int .i64 2, .slice Ao17 y177.length co17] 24 (0, 0)) (by (with_reducible repeat (first | refine blk_drewN ?_ _ | refine blk_drew ?_ | refine blk_alloc ?_ _)); exact BK180.out) hb); have n8_ := Aside0.mk (below_step (by repeat (first | (with_reducible first | exact HB.out | apply below_alloc | apply pw_below_drewN | apply below_drew1 | refine below_set ?_ GE180.out) | exact HB.out)) hb); have n9_ := Aside0.mk (hbox); have n10_ := Aside0.mk ((by rw [hg]; exact (below_size (by repeat (first | (with_reducible first | exact HB.out | apply below_alloc | apply pw_below_drewN | apply below_drew1 | refine below_set ?_ GE180.out) | exact HB.out))) : w.heap.size ≤ gb200)); have n11_ := Aside0.mk ((by rw [hg]; exact (below_size (by repeat (first | (with_reducible first | exact HB.out | apply below_alloc | apply pw_below_drewN | apply below_drew1 | refine below_set ?_ GE180.out) | exact HB.out))) : w.heap.size ≤ gb200)); have n12_ := Aside0.mk ((by rw [hg]; exact Nat.ne_of_lt (blk_lt (g := gb180) (o := .cells #[.int .i64 2, .slice Ao17 y177.length co17] 24 (0, 0)) (by (with_reducible repeat (first | refine blk_drewN ?_ _ | refine blk_drew ?_ | refine blk_alloc ?_ _)); exact BK180.out)) : gb180 ≠ gb200)); have n13_ := Aside0.mk ((by rw [hg]; exact Nat.ne_of_gt (blk_lt (g := gb180) (o := .cells #[.int .i64 2, .slice Ao17 y177.length co17] 24 (0, 0)) (by (with_reducible repeat (first | refine blk_drewN ?_ _ | refine blk_drew ?_ | refine blk_alloc ?_ _)); exact BK180.out)) : gb200 ≠ gb180)); clear HO179; clear HO183; clear HO186; clear HO189; clear HO192; clear HO195; clear HO198; clear BK180; clear HB; have HO179 := n0_; have HO183 := n1_; have HO186 := n2_; have HO189 := n3_; have HO192 := n4_; have HO195 := n5_; have HO198 := n6_; have BK180 := n7_; have HB := n8_; have BK200 := n9_; have GW200 := n10_; have GE200 := n11_; have NB180_200 := n12_; have NB200_180 := n13_; clear n0_ n1_ n2_ n3_ n4_ n5_ n6_ n7_ n8_ n9_ n10_ n11_ n12_ n13_; clear hb hbox hg; obtain ⟨Ao32, co32, eo32⟩ := Kd.R_slice HO195.out; subst eo32; have hnb33 := NB200_180.out; have hnc33 := NB180_200.out; have hcz34_0 : w31.cell? ⟨gb200, 0, none⟩ = some (.slice none 0 0) := (blk_cell BK200.out 0).trans rfl; have hcz34_1 : w31.cell? ⟨gb200, 1, none⟩ = some (.slice none 0 0) := (blk_cell BK200.out 1).trans rfl; have hfz34_0 := blk_frozen BK200.out 0; have hfz34_1 := blk_frozen BK200.out 1; obtain ⟨Ao35, co35, eo35⟩ := Kd.R_slice HO198.out; subst eo35; obtain ⟨Ao36, co36, eo36⟩ := Kd.R_slice HO189.out; subst eo36; have p201 : 0 ≤ (0 : Int) := (by omega); have q201 : 0 < (t187.length : Int) := of_decide_eq_true (by first | (with_reducible assumption) | assumption); obtain ⟨ad201, e201, hx201_0⟩ := Kd.at_int (Kd.R_reads' HO189.out).2.2 0 p201 q201; cases e201; have qi201 : (0 < t187.length) = True := eq_true (by omega); (try rw [show ((0 : Int)).toNat = 0 from rfl] at hx201_0); (try rw [Addr.add_zero'] at hx201_0); have hn201_0 : ad201.block ≠ gb200 := Kd.own_blk (Kd.R_ne HO189.out BK200.out (by decide)); have hn201_1 : ad201.block ≠ gb200 := Kd.own_blk (Kd.R_ne HO189.out BK200.out (by decide)); replace hx201_0 := (cell_far (p := ⟨gb200, 0, none⟩) (by first | (rw [add_block]; exact hn201_0) | (show (Addr.add _ _).block ≠ _; rw [add_block]; exact hn201_0) | exact hn201_0) (.slice Ao32 t193.length co32)).trans hx201_0; replace hx201_0 := (cell_far (p := ⟨gb200, 1, none⟩) (by first | (rw [add_block]; exact hn201_1) | (show (Addr.add _ _).block ≠ _; rw [add_block]; exact hn201_1) | exact hn201_1) (.slice Ao35 t196.length co35)).trans hx201_0; clear hn201_0; clear hn201_1; replace p201 := eq_true p201; replace q201 := eq_true q201; have p202 : 0 ≤ (1 : Int) := (by omega); have q202 : 1 < (t187.length : Int) := of_decide_eq_true (by first | (with_reducible assumption) | assumption); obtain ⟨ad202, e202, hx202_0⟩ := Kd.at_int (Kd.R_reads' HO189.out).2.2 1 p202 q202; obtain rfl : ad201 = ad202 := (by injection e202); (try simp only [show (1 : Int).toNat = 1 from rfl, Nat.reduceMul, Nat.reduceEqDiff, Go.Addr.add, ↓reduceIte] at hx202_0); have qi202 : (1 < t187.length) = True := eq_true (by omega); (try rw [show ((1 : Int)).toNat = 1 from rfl] at hx202_0); have hn202_0 : ad201.block ≠ gb200 := Kd.own_blk (Kd.R_ne HO189.out BK200.out (by decide)); have hn202_1 : ad201.block ≠ gb200 := Kd.own_blk (Kd.R_ne HO189.out BK200.out (by decide)); replace hx202_0 := (cell_far (p := ⟨gb200, 0, none⟩) (by first | (rw [add_block]; exact hn202_0) | (show (Addr.add _ _).block ≠ _; rw [add_block]; exact hn202_0) | exact hn202_0) (.slice Ao32 t193.length co32)).trans hx202_0; replace hx202_0 := (cell_far (p := ⟨gb200, 1, none⟩) (by first | (rw [add_block]; exact hn202_1) | (show (Addr.add _ _).block ≠ _; rw [add_block]; exact hn202_1) | exact hn202_1) (.slice Ao35 t196.length co35)).trans hx202_0; clear hn202_0; clear hn202_1; replace p202 := eq_true p202; replace q202 := eq_true q202; have p203 : 0 ≤ (2 : Int) := (by omega); have q203 : 2 < (t187.length : Int) := of_decide_eq_true (by first | (with_reducible assumption) | assumption); obtain ⟨ad203, e203, hx203_0⟩ := Kd.at_int (Kd.R_reads' HO189.out).2.2 2 p203 q203; obtain rfl : ad201 = ad203 := (by injection e203); (try simp only [show (2 : Int).toNat = 2 from rfl, Nat.reduceMul, Nat.reduceEqDiff, Go.Addr.add, ↓reduceIte] at hx203_0); have qi203 : (2 < t187.length) = True := eq_true (by omega); (try rw [show ((2 : Int)).toNat = 2 from rfl] at hx203_0); have hn203_0 : ad201.block ≠ gb200 := Kd.own_blk (Kd.R_ne HO189.out BK200.out (by decide)); have hn203_1 : ad201.block ≠ gb200 := Kd.own_blk (Kd.R_ne HO189.out BK200.out (by decide)); replace hx203_0 := (cell_far (p := ⟨gb200, 0, none⟩) (by first | (rw [add_block]; exact hn203_0) | (show (Addr.add _ _).block ≠ _; rw [add_block]; exact hn203_0) | exact hn203_0) (.slice Ao32 t193.length co32)).trans hx203_0; replace hx203_0 := (cell_far (p := ⟨gb200, 1, none⟩) (by first | (rw [add_block]; exact hn203_1) | (show (Addr.add _ _).block ≠ _; rw [add_block]; exact hn203_1) | exact hn203_1) (.slice Ao35 t196.length co35)).trans hx203_0; clear hn203_0; clear hn203_1; replace p203 := eq_true p203; replace q203 := eq_true q203; have p204 : 0 ≤ (0 : Int) := (by omega); have q204 : 0 < (t193.length : Int) := of_decide_eq_true (by first | (with_reducible assumption) | assumption); obtain ⟨ad204, e204, hx204_0⟩ := Kd.at_int (Kd.R_reads' HO195.out).2.2 0 p204 q204; cases e204; have qi204 : (0 < t193.length) = True := eq_true (by omega); (try rw [show ((0 : Int)).toNat = 0 from rfl] at hx204_0); (try rw [Addr.add_zero'] at hx204_0); have hn204_0 : ad204.block ≠ gb200 := Kd.own_blk (Kd.R_ne HO195.out BK200.out (by decide)); have hn204_1 : ad204.block ≠ gb200 := Kd.own_blk (Kd.R_ne HO195.out BK200.out (by decide)); replace hx204_0 := (cell_far (p := ⟨gb200, 0, none⟩) (by first | (rw [add_block]; exact hn204_0) | (show (Addr.add _ _).block ≠ _; rw [add_block]; exact hn204_0) | exact hn204_0) (.slice (some ad204) t193.length co32)).trans hx204_0; replace hx204_0 := (cell_far (p := ⟨gb200, 1, none⟩) (by first | (rw [add_block]; exact hn204_1) | (show (Addr.add _ _).block ≠ _; rw [add_block]; exact hn204_1) | exact hn204_1) (.slice Ao35 t196.length co35)).trans hx204_0; clear hn204_0; clear hn204_1; replace p204 := eq_true p204; replace q204 := eq_true q204))
                        go_ret
                        exact ⟨by first | rfl | trivial | (simp [errW_none, errW_some] <;> rfl) | (simp [*, errW_none, errW_some] <;> rfl), by repeat (first | (with_reducible first | exact HB.out | apply below_alloc | apply pw_below_drewN | apply below_drew1 | refine below_set ?_ GE180.out | refine below_set ?_ GE200.out) | exact HB.out)⟩
                      · rw [if_neg c14] at H
                        have c14b0 : ((rd t193 0) == 1) = false := beq_eq_false_iff_ne.mpr c14
                        have c14b1 : ((rd t193 0) != 1) = true := bne_iff_ne.mpr c14
                        exact absurd ((Option.some.inj H).trans hrt) (by decide)
                    · rw [if_neg c13] at H
                      exact absurd H (by simp)
                  · rw [if_neg c12] at H
                    have c12b0 : ((t193.length : Int) == 1) = false := beq_eq_false_iff_ne.mpr c12
                    have c12b1 : ((t193.length : Int) != 1) = true := bne_iff_ne.mpr c12
                    exact absurd ((Option.some.inj H).trans hrt) (by decide)
                · rw [if_neg c11] at H
                  have c11b0 : (t199 == 0) = false := beq_eq_false_iff_ne.mpr c11
                  have c11b1 : (t199 != 0) = true := bne_iff_ne.mpr c11
                  exact absurd ((Option.some.inj H).trans hrt) (by decide)
              · rw [if_neg c10] at H
                have c10b0 : ((rd t187 2) == 3) = false := beq_eq_false_iff_ne.mpr c10
                have c10b1 : ((rd t187 2) != 3) = true := bne_iff_ne.mpr c10
                exact absurd ((Option.some.inj H).trans hrt) (by decide)
            · rw [if_neg c9] at H
              exact absurd H (by simp)
          · rw [if_neg c8] at H
            have c8b0 : ((rd t187 1) == 2) = false := beq_eq_false_iff_ne.mpr c8
            have c8b1 : ((rd t187 1) != 2) = true := bne_iff_ne.mpr c8
            exact absurd ((Option.some.inj H).trans hrt) (by decide)
        · rw [if_neg c7] at H
          exact absurd H (by simp)
      · rw [if_neg c6] at H
        have c6b0 : ((rd t187 0) == 1) = false := beq_eq_false_iff_ne.mpr c6
        have c6b1 : ((rd t187 0) != 1) = true := bne_iff_ne.mpr c6
        exact absurd ((Option.some.inj H).trans hrt) (by decide)
    · rw [if_neg c5] at H
      exact absurd H (by simp)
  · rw [if_neg c4] at H
    have c4b0 : ((t187.length : Int) == 3) = false := beq_eq_false_iff_ne.mpr c4
    have c4b1 : ((t187.length : Int) != 3) = true := bne_iff_ne.mpr c4
    exact absurd ((Option.some.inj H).trans hrt) (by decide)


theorem tracerylaw04_awake.ev : Ev (fun k => tracerylaw04_awake.f k) true := Ev.of (fun k => tracerylaw04_awake.mono k) (k := 30) (by kernel_rfl)
theorem tracerylaw04_awake.calls (k : Nat) (r : Bool) (w : World) (h : tracerylaw04_awake.f k = some r) :
    Calls Try.prog 9 #[] w fun e w' => e = .returned (.bool r) ∧ Below w.heap.size w w' := by
  obtain ⟨a, ha⟩ := tracerylaw04_awake.ev
  obtain ⟨b, hb⟩ := Ev.of (g := fun k => tracerylaw04_awake.f k) (fun k => tracerylaw04_awake.mono k) h
  have hr : true = r := Option.some.inj ((ha (max a b) (by omega)).symm.trans (hb (max a b) (by omega)))
  exact tracerylaw04_awake.calls_true k r w h hr.symm

end Go.Proofs.Ytbgefphoochgcaa.PA
