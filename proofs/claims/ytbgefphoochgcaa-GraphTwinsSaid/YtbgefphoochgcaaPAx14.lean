-- Written by wip/tools/gprint.py of this repo (the kit's printer, some functions given).
import Derived.Test.YtbgefphoochgcaaPAx0
namespace Go.Proofs.Ytbgefphoochgcaa.PA
open Go.RowKit Go.Proofs.YtbgefphoochgcaaW.PrintWords Go.Proofs.YtbgefphoochgcaaW.PrintLast Go.Proofs.YtbgefphoochgcaaW.PrintMore
attribute [local go_sem] max2_int min2_int max_two min_two max_three min_three max_four min_four   -- for this text's walks alone
set_option linter.unusedVariables false
set_option linter.unusedSimpArgs false
set_option linter.unnecessarySimpa false

/-! ### slices_Sort_int_int: function 41 -/
-- LEAF
def slices_Sort_int_int.f (l0 : List Int) : Option (List Int) := if l0.length ≤ 1000000 then some (isort l0) else none
set_option maxHeartbeats 4000000 in
theorem slices_Sort_int_int.calls (P0_ : Nat → Prop) (u9000_ : Value) (l0 : List Int) (r : List Int) (w0 w : World) (hB : Below w0.heap.size w0 w) (ho0 : Kd.R (Kd.int .i64) 3 w w0.heap.size P0_ u9000_ l0) (h : slices_Sort_int_int.f l0 = some r) :
    Calls Try.prog 41 #[u9000_] w fun e w' => e = .returned (.tuple #[]) ∧ Kd.R (Kd.int .i64) 3 w' w0.heap.size (fun k_ => (P0_ k_ ∨ w.heap.size ≤ k_)) u9000_ r ∧ Below w0.heap.size w0 w' ∧ Kept w w' (fun k_ => P0_ k_) := by
  unfold slices_Sort_int_int.f at h
  by_cases hs : l0.length ≤ 1000000
  rotate_left
  · rw [if_neg hs] at h; cases h
  rw [if_pos hs] at h
  obtain rfl := Option.some.inj h
  clear h
  have ho := Kd.R_mono (ok' := fun k_ => (P0_ k_ ∨ w.heap.size ≤ k_)) ho0 (fun _ hk => .inl hk)
  by_cases h0 : l0 = []
  · subst h0
    obtain ⟨A, c, rfl, hc, hC⟩ := Kd.R_reads ho0
    refine (Try.slices_Sort_int_none A c w).mono ?_
    rintro e w' ⟨rfl, rfl⟩
    exact ⟨rfl, ho, hB, Kept.refl _ _⟩
  · have h1 : 0 < l0.length := List.length_pos_iff.2 h0
    obtain ⟨b, cap, rfl, hbg, hlt, cells, hcells⟩ := Kd.R_form ho h1
    have hH : Go.Sort.Holds (Value.int .i64) w b 0 l0.toArray := holds_R ho
    refine (Try.slices_Sort_int b 0 cap l0 w hH hlt (by omega)).mono ?_
    rintro e w' ⟨rfl, q, os, rfl⟩
    rw [mergeSort_isort, Go.Lib.putRow_eq_setCells _ _ _ _ l0.toArray _ q hH (by rw [isort_length]; simp)]
    have hR1 := R_setCells (isort l0) l0 0 (w.drewN q) (Kd.R_drewN ho q)
    rw [putFrom_eq _ _ _ (by rw [isort_length]; omega)] at hR1
    have hts : List.take 0 l0 ++ isort l0 ++ List.drop (0 + (isort l0).length) l0 = isort l0 := by rw [isort_length]; simp
    rw [hts] at hR1
    have hsz := setCells_size b ((isort l0).map (Value.int .i64)) 0 (w.drewN q)
    have hold : ∀ k, k < w.heap.size → (Go.Sort.grow ((w.drewN q).setCells b 0 ((isort l0).map (Value.int .i64))) os).heap[k]? = ((w.drewN q).setCells b 0 ((isort l0).map (Value.int .i64))).heap[k]? := fun k hk => Go.Sort.heap_grow_old _ os (by rw [hsz]; exact hk)
    have hgs : w.heap.size ≤ (Go.Sort.grow ((w.drewN q).setCells b 0 ((isort l0).map (Value.int .i64))) os).heap.size := by
      show _ ≤ (((w.drewN q).setCells b 0 ((isort l0).map (Value.int .i64))).heap ++ os).size
      rw [Array.size_append, hsz]
      exact Nat.le_add_right _ _
    refine ⟨rfl, Kd.R_step hR1 (fun k _ hk => hold k (by rw [hsz] at hk; exact hk)), ?_, hgs, ?_⟩
    · have h1 := below_cells hbg ((isort l0).map (Value.int .i64)) 0 (pw_below_drewN hB q)
      refine ⟨h1.os, h1.tape, h1.output, Nat.le_trans hB.size hgs, fun k hk => ?_⟩
      rw [hold k (Nat.lt_of_lt_of_le hk hB.size)]
      exact h1.block k hk
    · intro k hk hn
      rw [hold k hk, setCells_other b _ _ _ k (fun e => hn (by rw [e]; exact ho0.1 b rfl))]
      rfl


end Go.Proofs.Ytbgefphoochgcaa.PA
