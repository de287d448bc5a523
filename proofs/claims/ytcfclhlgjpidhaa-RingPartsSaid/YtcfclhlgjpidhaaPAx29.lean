-- Written by wip/tools/gprint.py of this repo (the kit's printer, some functions given).
import Derived.Test.YtcfclhlgjpidhaaPAx0
namespace Go.Proofs.Ytcfclhlgjpidhaa.PA
open Go.RowKit Go.Proofs.YtcfclhlgjpidhaaW.PrintWords Go.Proofs.YtcfclhlgjpidhaaW.PrintLast Go.Proofs.YtcfclhlgjpidhaaW.PrintMore
attribute [local go_sem] max2_int min2_int max_two min_two max_three min_three max_four min_four   -- for this text's walks alone
set_option linter.unusedVariables false
set_option linter.unusedSimpArgs false
set_option linter.unnecessarySimpa false

/-! ### slices_GrowNil: function 59 -/
-- PSEUDO slices.Grow[[]int,int] slices.GrowNil 0=Go.Operand.const (Go.Value.slice none 0 0)
def slices_GrowNil.f (a0 : Int) : Option (List Int) := if 0 ≤ a0 ∧ a0 ≤ 4000000 then some [] else none
set_option maxHeartbeats 4000000 in
set_option maxRecDepth 100000 in
theorem slices_GrowNil.calls (a0 : Int) (r : List Int) (w : World) (h : slices_GrowNil.f a0 = some r) :
    Calls Try.prog 40 #[.slice none 0 0, .int .i64 a0] w fun e w' => ∃ v0_ : Value, e = .returned (v0_) ∧ Kd.R (Kd.int .i64) 3 w' w.heap.size (fun _ => True) v0_ r ∧ Below w.heap.size w w' := by
  unfold slices_GrowNil.f at h
  by_cases hs : 0 ≤ a0 ∧ a0 ≤ 4000000
  rotate_left
  · rw [if_neg hs] at h; cases h
  rw [if_pos hs] at h
  obtain rfl := Option.some.inj h
  clear h
  obtain ⟨n, rfl⟩ := Int.eq_ofNat_of_zero_le hs.1
  have h1 : ¬ ((n : Int) < 0) := by omega
  have h2 : wrap64 ((n : Int) - 0) = (n : Int) := by unfold wrap64; omega
  rcases Nat.eq_zero_or_pos n with h0 | h0
  · subst h0
    go_enter Try.func40, Try.ntmps40
    go_wp2
    go_ret
    exact ⟨_, rfl, Kd.R_nil _ _ _ _ _, Below.refl _ _⟩
  · have h4 : (n : Int) > 0 := by omega
    obtain ⟨i0, hi0, hz0⟩ := Option.map_eq_some_iff.1 info3
    simp only [Prod.mk.injEq] at hz0
    obtain ⟨hz, hsz, hby⟩ := hz0
    have hold : (Builtin.firstCells i0.size 0 (.slice none 0 0)).run Try.prog w.drew = .ok (#[] : Array Value) w.drew := run_firstCells_none w.drew i0.size 0 0 0
    have hrz : ∀ ty, (Builtin.append_ #[22, 3] ty #[.slice none 0 0, .int .i64 (n : Int)]).run Try.prog w =
        .ok (.slice (some ⟨w.heap.size, 0, none⟩) n (grownCap w n 0 3)) (w.drew.alloc (.cells (([] : List Value).toArray ++ Builtin.zeroCells (Value.int .i64 0).cells n ++ Builtin.zeroCells (Value.int .i64 0).cells (grownCap w n 0 3 - n)) 3)) := fun ty => by
      have h := Lib.run_append_grow_zeros w 22 3 ty 3 i0 (.int .i64 0) .i64 .i64 Try.underlying22 Try.underlying3 hi0 hz none 0 0 [] hold n (by omega) (by omega) (by omega) (by omega)
        (by rw [hby]; omega)
        (by rw [Nat.zero_add]; exact growslice_fits (by omega) (by rw [hby]; omega))
      rw [Nat.zero_add] at h
      exact h
    have hG63 := grownCap_le_maxLen w n 0 3 (by unfold maxLen; omega)
    have hGn := grownCap_ge w n 0 3
    obtain ⟨G, hG⟩ : ∃ G, G = grownCap w n 0 3 := ⟨_, rfl⟩
    rw [← hG] at hrz hG63 hGn
    have hG63' : G ≤ 9223372036854775807 := by unfold maxLen at hG63; omega
    clear hold hG
    obtain ⟨C, hC⟩ : ∃ C, C = (([] : List Value).toArray ++ Builtin.zeroCells (Value.int .i64 0).cells n ++ Builtin.zeroCells (Value.int .i64 0).cells (G - n)) := ⟨_, rfl⟩
    have hCs : C.size = G := by
      rw [hC]
      simp only [Array.size_append, size_zeroCells, Value.cells]
      simp
      omega
    rw [← hC] at hrz
    clear hC
    go_enter Try.func40, Try.ntmps40
    go_wp2_with (at_builtin; refine Lib.wpList_append_run _ rfl _ _ _ _ rfl _ _ rfl rfl _ _ (hrz _) ?_)
    go_ret
    refine ⟨_, rfl, Kd.R_of_own (xs := []) ⟨by simp [encs], .inr ⟨w.heap.size, G, C, rfl, Nat.le_refl _, ?_, Nat.zero_le _, hG63, by rw [hCs, Nat.mul_one], by simp [encs]⟩⟩ (fun _ _ => trivial), ?_⟩
    · exact Array.getElem?_push_size
    · exact below_alloc (pw_below_drewN (Below.refl _ _) 1) _


end Go.Proofs.Ytcfclhlgjpidhaa.PA
