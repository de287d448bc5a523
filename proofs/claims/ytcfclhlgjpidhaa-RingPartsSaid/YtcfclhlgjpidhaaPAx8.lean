-- Written by wip/tools/gprint.py of this repo (the kit's printer, some functions given).
import Derived.Test.YtcfclhlgjpidhaaPAx0
import Derived.Test.YtcfclhlgjpidhaaPAx5
namespace Go.Proofs.Ytcfclhlgjpidhaa.PA
open Go.RowKit Go.Proofs.YtcfclhlgjpidhaaW.PrintWords Go.Proofs.YtcfclhlgjpidhaaW.PrintLast Go.Proofs.YtcfclhlgjpidhaaW.PrintMore
attribute [local go_sem] max2_int min2_int max_two min_two max_three min_three max_four min_four   -- for this text's walks alone
set_option linter.unusedVariables false
set_option linter.unusedSimpArgs false
set_option linter.unnecessarySimpa false

/-! ### ring_turned: function 32 -/
theorem cut_hm {w : World} {A : Option Addr} {l : List Int} (h : Kd.C (Kd.int .i64) w A l.length l) (m : Nat) (hm : m ≤ l.length) : Kd.C (Kd.int .i64) w A m (l.take m) := by
  have h1 := Kd.C_take h hm
  rw [List.length_take, Nat.min_eq_left hm] at h1
  exact h1
def ring_turned.f (l0 : List Int) (a1 : Int) : Option (List Int) := if l0.length ≤ 1000000 then (if l0.length = 0 then some [] else if 0 ≤ a1 ∧ a1 ≤ l0.length then some (l0.drop a1.toNat ++ l0.take a1.toNat) else none) else none
set_option maxHeartbeats 4000000 in
set_option maxRecDepth 100000 in
theorem ring_turned.calls (A0 : Option Addr) (c0 : Nat) (l0 : List Int) (a1 : Int) (r : List Int) (w : World) (hr0 : Kd.C (Kd.int .i64) w A0 l0.length l0) (hc0 : l0.length ≤ c0) (h : ring_turned.f l0 a1 = some r) :
    Calls Try.prog 32 #[.slice A0 l0.length c0, .int .i64 a1] w fun e w' => ∃ v0_ : Value, e = .returned (v0_) ∧ Kd.R (Kd.int .i64) 3 w' w.heap.size (fun _ => True) v0_ r ∧ Below w.heap.size w w' := by
  unfold ring_turned.f at h
  by_cases hsz : l0.length ≤ 1000000
  rotate_left
  · rw [if_neg hsz] at h; cases h
  rw [if_pos hsz] at h
  have HR := Aside0.mk hr0
  clear hr0
  by_cases h0 : l0.length = 0
  · rw [if_pos h0] at h
    obtain rfl : [] = r := Option.some.inj h
    have hb : ((l0.length : Int) == 0) = true := beq_iff_eq.2 (by omega)
    clear h0 h
    go_enter Try.func32, Try.ntmps32
    go_wp2
    go_ret
    exact ⟨_, rfl, Kd.R_nil _ _ _ _ _, Below.refl _ _⟩
  · rw [if_neg h0] at h
    by_cases h1 : 0 ≤ a1 ∧ a1 ≤ l0.length
    rotate_left
    · rw [if_neg h1] at h; cases h
    rw [if_pos h1] at h
    have HE := Aside0.mk (Option.some.inj h)
    clear h
    obtain ⟨m, rfl⟩ := Int.eq_ofNat_of_zero_le h1.1
    rw [Int.toNat_natCast] at HE
    have hm : m ≤ l0.length := by omega
    have hb : ((l0.length : Int) == 0) = false := beq_eq_false_iff_ne.2 (by omega)
    clear h0 h1
    obtain ⟨i0, hi0, hz0⟩ := Option.map_eq_some_iff.1 info3
    obtain ⟨A1, hs1, hA1⟩ := print_cut_of (P := Try.prog) (Value.int .i64) (0 : Int) 22 3 .i64 Try.underlying22 hi0 (by simp only [Prod.mk.injEq] at hz0; exact hz0.2.1) A0 l0.length c0 m hm
    have HCL : ∀ W : World, Below w.heap.size w W → Calls Try.prog 27 #[.slice A1 (l0.length - m) (c0 - m)] W fun e w' => ∃ v0_ : Value, e = .returned (v0_) ∧ Kd.R (Kd.int .i64) 3 w' W.heap.size (fun _ => True) v0_ (l0.drop m) ∧ Below W.heap.size W w' := by
      intro W hb
      have hC : Kd.C (Kd.int .i64) W A1 (l0.drop m).length (l0.drop m) := by
        rw [List.length_drop]
        exact Kd.C_of_reads (d := (0 : Int)) (h1 := fun _ => rfl) (hA1 W l0 hc0 (Kd.reads_of_C (d := (0 : Int)) (Kd.C_below HR.out hb)))
      have := slices_Clone_int_int.calls A1 (c0 - m) (l0.drop m) (l0.drop m) W hC (by rw [List.length_drop]; omega) (by unfold slices_Clone_int_int.f; rw [if_pos (by rw [List.length_drop]; omega)])
      rwa [List.length_drop] at this
    have HB := Aside0.mk (Below.refl w.heap.size w)
    clear hA1
    have hmc : m ≤ c0 := by omega
    go_enter Try.func32, Try.ntmps32
    go_wp2
    refine start_ (n := 10) (S := fun w' => True) (ds := []) #[false, false, false, false, false, false, false, false, false, false] (by kernel_rfl) rfl rfl trivial (fun hHeld => ?_)
    refine pure_ (i := 0) (N := some 8) (v := ?_) (a' := ?_) #[true, false, false, false, false, false, false, false, false, false] rfl rfl (by kernel_rfl) (fun _ _ _ h => h) (Or.inl ⟨by rfl, ?_⟩) ?_ ?_
    rotate_left
    · intro w'
      go_simp
      with_reducible rfl
    rotate_left
    · simp only [Act.put, List.setIfInBounds_toArray, List.set_cons_zero, List.set_cons_succ, i64_w, i32_w]
      rfl
    refine pure_ (i := 1) (N := some 9) (v := ?_) (a' := ?_) #[true, true, false, false, false, false, false, false, false, false] rfl rfl (by kernel_rfl) (fun _ _ _ h => h) (Or.inl ⟨by rfl, ?_⟩) ?_ ?_
    rotate_left
    · intro w'
      go_simp
      with_reducible rfl
    rotate_left
    · simp only [Act.put, List.setIfInBounds_toArray, List.set_cons_zero, List.set_cons_succ, i64_w, i32_w]
      rfl
    refine pure_ (i := 2) (N := some 10) (v := ?_) (a' := ?_) #[true, true, true, false, false, false, false, false, false, false] rfl rfl (by kernel_rfl) (fun _ _ _ h => h) (Or.inl ⟨by rfl, ?_⟩) ?_ ?_
    rotate_left
    · intro w'
      go_simp
      with_reducible rfl
    rotate_left
    · simp only [Act.put, List.setIfInBounds_toArray, List.set_cons_zero, List.set_cons_succ, i64_w, i32_w]
      rfl
    refine pure_ (i := 4) (N := some 12) (v := ?_) (a' := ?_) #[true, true, true, false, true, false, false, false, false, false] rfl rfl (by kernel_rfl) (fun _ _ _ h => h) (Or.inl ⟨by rfl, ?_⟩) ?_ ?_
    rotate_left
    · intro w'
      go_simp
      with_reducible rfl
    rotate_left
    · simp only [Act.put, List.setIfInBounds_toArray, List.set_cons_zero, List.set_cons_succ, i64_w, i32_w]
      rfl
    refine pure_ (i := 5) (N := some 13) (v := ?_) (a' := ?_) #[true, true, true, false, true, true, false, false, false, false] rfl rfl (by kernel_rfl) (fun _ _ _ h => h) (Or.inl ⟨by rfl, ?_⟩) ?_ ?_
    rotate_left
    · intro w'
      go_simp
      with_reducible rfl
    rotate_left
    · simp only [Act.put, List.setIfInBounds_toArray, List.set_cons_zero, List.set_cons_succ, i64_w, i32_w]
      rfl
    refine pure_ (i := 6) (N := some 14) (v := ?_) (a' := ?_) #[true, true, true, false, true, true, true, false, false, false] rfl rfl (by kernel_rfl) (fun _ _ _ h => h) (Or.inl ⟨by rfl, ?_⟩) ?_ ?_
    rotate_left
    · intro w'
      go_simp
      with_reducible rfl
    rotate_left
    · simp only [Act.put, List.setIfInBounds_toArray, List.set_cons_zero, List.set_cons_succ, i64_w, i32_w]
      rfl
    refine pure_ (i := 7) (N := some 15) (v := ?_) (a' := ?_) #[true, true, true, false, true, true, true, true, false, false] rfl rfl (by kernel_rfl) (fun _ _ _ h => h) (Or.inl ⟨by rfl, ?_⟩) ?_ ?_
    rotate_left
    · intro w'
      go_simp
      with_reducible rfl
    rotate_left
    · simp only [Act.put, List.setIfInBounds_toArray, List.set_cons_zero, List.set_cons_succ, i64_w, i32_w]
      rfl
    refine one_ (i := 3) (N := some 11) #[true, true, true, true, true, true, true, true, false, false] rfl rfl (by kernel_rfl) (by decide) (fun K hK => ?_)
    refine goes_ Try.func27 (by kernel_rfl) rfl #[.slice A1 (l0.length - m) (c0 - m)] (by rfl) rfl rfl (by simp only [List.map_toArray, List.map_cons, List.map_nil]; rfl) ?_
    with_reducible refine (HCL _ (below_drew1 HB.out)).mono ?_
    rintro e w3 ⟨v0, rfl, ho, hb⟩
    refine ⟨_, rfl, ?_⟩
    have HO := Aside0.mk ho
    have HB3 := Aside0.mk (below_step (below_drew1 HB.out) hb)
    clear ho hb
    refine hK.out _ _ trivial (fun hHeld => ?_)
    clear hK K
    refine norm_ (a' := ?_) ?_ ?_
    rotate_left
    · show Act.put _ (some 11) _ = _
      simp only [Act.put, List.setIfInBounds_toArray, List.set_cons_zero, List.set_cons_succ, i64_w, i32_w]
      rfl
    refine one_ (i := 8) (N := some 16) #[true, true, true, true, true, true, true, true, true, false] rfl rfl (by kernel_rfl) (by decide) (fun K hK => ?_)
    refine Kd.R_append_rows_step (Kd.int .i64) (Rr := fun x cs => cs = [.int .i64 x]) (w0 := w) w.heap.size (by rfl) (.tmp 11) (.tmp 15) 22 3 (.int .i64 0) 8 rfl Try.underlying22 info3 rfl (by decide) (by decide) v0 (l0.drop m) (l0.take m) _ m m (fun _ => True) (fun _ => False) rfl rfl HO.out (cut_hm (Kd.C_below HR.out HB3.out) m hm) (fun _ _ h => h) (fun _ h => h.elim) (fun _ _ => trivial) HB3.out (by have := HB3.out.size; exact this) (by simp; omega) ?_
    intro v1 w4 ho hb hg hat
    have HO4 := Aside0.mk ho
    have HB4 := Aside0.mk hb
    clear ho hb hg hat
    refine hK.out _ _ trivial (fun hHeld => ?_)
    clear hK K
    refine norm_ (a' := ?_) ?_ ?_
    rotate_left
    · show Act.put _ (some 16) _ = _
      simp only [Act.put, List.setIfInBounds_toArray, List.set_cons_zero, List.set_cons_succ, i64_w, i32_w]
      rfl
    refine pure_ (i := 9) (N := some 4) (v := ?_) (a' := ?_) #[true, true, true, true, true, true, true, true, true, true] rfl rfl (by kernel_rfl) (fun _ _ _ h => h) (Or.inl ⟨by rfl, ?_⟩) ?_ ?_
    rotate_left
    · intro w'
      go_simp
      with_reducible rfl
    rotate_left
    · simp only [Act.put, List.setIfInBounds_toArray, List.set_cons_zero, List.set_cons_succ, i64_w, i32_w]
      rfl
    refine done_ (by kernel_rfl) ?_
    go_wp2
    go_ret
    exact ⟨_, rfl, by rw [← HE.out]; exact HO4.out, HB4.out⟩


end Go.Proofs.Ytcfclhlgjpidhaa.PA
