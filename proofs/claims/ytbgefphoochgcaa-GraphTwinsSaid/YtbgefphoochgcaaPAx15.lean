-- Written by wip/tools/gprint.py of this repo (the kit's printer, some functions given).
import Derived.Test.YtbgefphoochgcaaPAx0
namespace Go.Proofs.Ytbgefphoochgcaa.PA
open Go.RowKit Go.Proofs.YtbgefphoochgcaaW.PrintWords Go.Proofs.YtbgefphoochgcaaW.PrintLast Go.Proofs.YtbgefphoochgcaaW.PrintMore
attribute [local go_sem] max2_int min2_int max_two min_two max_three min_three max_four min_four   -- for this text's walks alone
set_option linter.unusedVariables false
set_option linter.unusedSimpArgs false
set_option linter.unnecessarySimpa false

/-! ### slices_Compact_int_int: function 42 -/
-- LEAF
theorem compact_le (l : List Int) : (Lib.compact l).length ≤ l.length := Lib.compact_length_le l
/-- slices.Compact of a row of the call's own. -/
theorem compact_R (e base : Nat) (he : e = 3) (ok : Nat → Prop) (v : Value) (l : List Int) (w w0 : World) (ho : (Kd.int .i64).R e w base ok v l) (hB : Below base w0 w) :
    Calls Try.prog 42 #[v] w fun e' w' => ∃ v' : Value, e' = .returned v' ∧ (Kd.int .i64).R e w' base ok v' (Lib.compact l) ∧ Below base w0 w' ∧ v'.ownBlock = v.ownBlock ∧ w.heap.size = w'.heap.size ∧ ∀ k, some k ≠ v.ownBlock → w'.heap[k]? = w.heap[k]? := by
  subst he
  by_cases h0 : l = []
  · subst h0
    obtain ⟨A, c, rfl, hc, hC⟩ := Kd.R_reads ho
    refine (Try.slices_Compact_int_empty A c w).mono ?_
    rintro e w' ⟨rfl, rfl⟩
    exact ⟨_, rfl, ho, hB, rfl, rfl, fun _ _ => rfl⟩
  · have hp : 0 < l.length := List.length_pos_iff.2 h0
    obtain ⟨g, cap, rfl, hbg, hlt, cells, hcells⟩ := Kd.R_form ho hp
    obtain ⟨hn, hnc, hC⟩ := Kd.R_reads' ho
    have hcell : ∀ j, j < l.length → w.cell? ⟨g, 0 + j, none⟩ = some (.int .i64 (l.getD j 0)) := by
      intro j hj
      have := (Kd.R_celln (0 : Int) ho (j : Int) (by omega) (by omega)).1
      rw [Int.toNat_natCast] at this
      rw [Nat.zero_add]
      exact this
    have hfro : ∀ j, j < l.length → w.frozen? ⟨g, 0 + j, none⟩ = false := by
      intro j hj
      have := (Kd.R_celln (0 : Int) ho (j : Int) (by omega) (by omega)).2
      rw [Int.toNat_natCast] at this
      rw [Nat.zero_add]
      exact this
    refine (Try.slices_Compact_int_cells g 0 l.length cap l w (Nat.le_refl _) (by have := hC.2.1; omega) hnc hcell hfro).mono ?_
    rintro e w' ⟨rfl, q, rfl⟩
    rw [List.take_length]
    have hcl := compact_le l
    have hR1 := R_setCells (Lib.compact l ++ List.replicate (l.length - (Lib.compact l).length) 0) l 0 (w.drewN q) (Kd.R_drewN ho q)
    rw [putFrom_eq _ _ _ (by simp; omega)] at hR1
    have hR2 := Kd.R_take hR1 (m := (Lib.compact l).length) (by simp)
    have hts : (List.take 0 l ++ (Lib.compact l ++ List.replicate (l.length - (Lib.compact l).length) (0 : Int)) ++ List.drop (0 + (Lib.compact l ++ List.replicate (l.length - (Lib.compact l).length) (0 : Int)).length) l).take (Lib.compact l).length = Lib.compact l := by
      simp
    rw [hts] at hR2
    have hsz : ∀ (vs : List Value) (o : Nat) (W : World), (W.setCells g o vs).heap.size = W.heap.size := by
      intro vs
      induction vs with
      | nil => intro o W; rfl
      | cons v vs ih => intro o W; show ((W.setCell ⟨g, o, none⟩ v).setCells g (o + 1) vs).heap.size = _; rw [ih]; simp [World.setCell]
    refine ⟨_, rfl, hR2, ?_, rfl, ?_, ?_⟩
    · exact below_cells hbg _ _ (pw_below_drewN hB q)
    · rw [hsz]; rfl
    · intro k hk
      rw [setCells_other g _ _ _ k (by simpa [Value.ownBlock] using hk)]
      rfl
def slices_Compact_int_int.f (l0 : List Int) : Option (List Int) := if l0.length ≤ 1000000 then some (Lib.compact l0) else none
theorem slices_Compact_int_int.calls (P0_ : Nat → Prop) (u9000_ : Value) (l0 : List Int) (r : List Int) (w0 w : World) (hB : Below w0.heap.size w0 w) (ho0 : Kd.R (Kd.int .i64) 3 w w0.heap.size P0_ u9000_ l0) (h : slices_Compact_int_int.f l0 = some r) :
    Calls Try.prog 42 #[u9000_] w fun e w' => ∃ v0_ : Value, e = .returned (v0_) ∧ Kd.R (Kd.int .i64) 3 w' w0.heap.size (fun k_ => (P0_ k_ ∨ w.heap.size ≤ k_)) v0_ r ∧ Below w0.heap.size w0 w' ∧ Kept w w' (fun k_ => P0_ k_) := by
  unfold slices_Compact_int_int.f at h
  by_cases hs : l0.length ≤ 1000000
  rotate_left
  · rw [if_neg hs] at h; cases h
  rw [if_pos hs] at h
  obtain rfl := Option.some.inj h
  refine (compact_R 3 w0.heap.size rfl (fun k_ => (P0_ k_ ∨ w.heap.size ≤ k_)) u9000_ l0 w w0 (Kd.R_mono ho0 (fun _ hk => .inl hk)) hB).mono ?_
  rintro e w' ⟨v', rfl, hR, hb, ho, hsz, hk⟩
  refine ⟨_, rfl, hR, hb, Nat.le_of_eq hsz, fun i _ hn => hk i (fun e => hn (ho0.1 i e.symm))⟩


end Go.Proofs.Ytbgefphoochgcaa.PA
