-- Written by wip/tools/gprint.py of this repo (the kit's printer, some functions given).
import Derived.Test.YtdhnoclkepopgaaPAx0
namespace Go.Proofs.Ytdhnoclkepopgaa.PA
open Go.RowKit Go.Proofs.YtdhnoclkepopgaaW.PrintWords Go.Proofs.YtdhnoclkepopgaaW.PrintLast Go.Proofs.YtdhnoclkepopgaaW.PrintMore
attribute [local go_sem] max2_int min2_int max_two min_two max_three min_three max_four min_four   -- for this text's walks alone
set_option linter.unusedVariables false
set_option linter.unusedSimpArgs false
set_option linter.unnecessarySimpa false

/-! ### traceryref01_Class: function 18 -/
mutual
def traceryref01_Class.j0 : Nat → Int → Bool → Option (Int)
  | 0, _, _ => none
  | k + 1, x0, x52 => if x52 = true then (some 1) else (if x0 ≥ 48 then (traceryref01_Class.j1 k x0 (decide (x0 ≤ 57))) else (traceryref01_Class.j1 k x0 false))
def traceryref01_Class.j1 : Nat → Int → Bool → Option (Int)
  | 0, _, _ => none
  | k + 1, x0, x58 => if x58 = true then (some 2) else (if x0 = 95 then (traceryref01_Class.j2 k x0 true) else (if x0 ≥ 8242 then (traceryref01_Class.j2 k x0 (decide (x0 ≤ 8244))) else (traceryref01_Class.j2 k x0 false)))
def traceryref01_Class.j2 : Nat → Int → Bool → Option (Int)
  | 0, _, _ => none
  | k + 1, x0, x68 => if x68 = true then (some 3) else (if x0 = 32 then (some 4) else (some 0))
end
def traceryref01_Class.f (k : Nat) (a0 : Int) : Option (Int) := if a0 ≥ 97 then (if a0 ≤ 122 then (traceryref01_Class.j0 k a0 true) else (if a0 ≥ 65 then (if a0 ≤ 90 then (traceryref01_Class.j0 k a0 true) else (if a0 ≥ 192 then (if a0 ≤ 591 then (if a0 = 215 then (if a0 ≥ 913 then (if a0 ≤ 969 then (if a0 = 930 then (if a0 ≥ 1040 then (traceryref01_Class.j0 k a0 (decide (a0 ≤ 1103))) else (traceryref01_Class.j0 k a0 false)) else (traceryref01_Class.j0 k a0 true)) else (if a0 ≥ 1040 then (traceryref01_Class.j0 k a0 (decide (a0 ≤ 1103))) else (traceryref01_Class.j0 k a0 false))) else (if a0 ≥ 1040 then (traceryref01_Class.j0 k a0 (decide (a0 ≤ 1103))) else (traceryref01_Class.j0 k a0 false))) else (if a0 = 247 then (if a0 ≥ 913 then (if a0 ≤ 969 then (if a0 = 930 then (if a0 ≥ 1040 then (traceryref01_Class.j0 k a0 (decide (a0 ≤ 1103))) else (traceryref01_Class.j0 k a0 false)) else (traceryref01_Class.j0 k a0 true)) else (if a0 ≥ 1040 then (traceryref01_Class.j0 k a0 (decide (a0 ≤ 1103))) else (traceryref01_Class.j0 k a0 false))) else (if a0 ≥ 1040 then (traceryref01_Class.j0 k a0 (decide (a0 ≤ 1103))) else (traceryref01_Class.j0 k a0 false))) else (traceryref01_Class.j0 k a0 true))) else (if a0 ≥ 913 then (if a0 ≤ 969 then (if a0 = 930 then (if a0 ≥ 1040 then (traceryref01_Class.j0 k a0 (decide (a0 ≤ 1103))) else (traceryref01_Class.j0 k a0 false)) else (traceryref01_Class.j0 k a0 true)) else (if a0 ≥ 1040 then (traceryref01_Class.j0 k a0 (decide (a0 ≤ 1103))) else (traceryref01_Class.j0 k a0 false))) else (if a0 ≥ 1040 then (traceryref01_Class.j0 k a0 (decide (a0 ≤ 1103))) else (traceryref01_Class.j0 k a0 false)))) else (if a0 ≥ 913 then (if a0 ≤ 969 then (if a0 = 930 then (if a0 ≥ 1040 then (traceryref01_Class.j0 k a0 (decide (a0 ≤ 1103))) else (traceryref01_Class.j0 k a0 false)) else (traceryref01_Class.j0 k a0 true)) else (if a0 ≥ 1040 then (traceryref01_Class.j0 k a0 (decide (a0 ≤ 1103))) else (traceryref01_Class.j0 k a0 false))) else (if a0 ≥ 1040 then (traceryref01_Class.j0 k a0 (decide (a0 ≤ 1103))) else (traceryref01_Class.j0 k a0 false))))) else (if a0 ≥ 192 then (if a0 ≤ 591 then (if a0 = 215 then (if a0 ≥ 913 then (if a0 ≤ 969 then (if a0 = 930 then (if a0 ≥ 1040 then (traceryref01_Class.j0 k a0 (decide (a0 ≤ 1103))) else (traceryref01_Class.j0 k a0 false)) else (traceryref01_Class.j0 k a0 true)) else (if a0 ≥ 1040 then (traceryref01_Class.j0 k a0 (decide (a0 ≤ 1103))) else (traceryref01_Class.j0 k a0 false))) else (if a0 ≥ 1040 then (traceryref01_Class.j0 k a0 (decide (a0 ≤ 1103))) else (traceryref01_Class.j0 k a0 false))) else (if a0 = 247 then (if a0 ≥ 913 then (if a0 ≤ 969 then (if a0 = 930 then (if a0 ≥ 1040 then (traceryref01_Class.j0 k a0 (decide (a0 ≤ 1103))) else (traceryref01_Class.j0 k a0 false)) else (traceryref01_Class.j0 k a0 true)) else (if a0 ≥ 1040 then (traceryref01_Class.j0 k a0 (decide (a0 ≤ 1103))) else (traceryref01_Class.j0 k a0 false))) else (if a0 ≥ 1040 then (traceryref01_Class.j0 k a0 (decide (a0 ≤ 1103))) else (traceryref01_Class.j0 k a0 false))) else (traceryref01_Class.j0 k a0 true))) else (if a0 ≥ 913 then (if a0 ≤ 969 then (if a0 = 930 then (if a0 ≥ 1040 then (traceryref01_Class.j0 k a0 (decide (a0 ≤ 1103))) else (traceryref01_Class.j0 k a0 false)) else (traceryref01_Class.j0 k a0 true)) else (if a0 ≥ 1040 then (traceryref01_Class.j0 k a0 (decide (a0 ≤ 1103))) else (traceryref01_Class.j0 k a0 false))) else (if a0 ≥ 1040 then (traceryref01_Class.j0 k a0 (decide (a0 ≤ 1103))) else (traceryref01_Class.j0 k a0 false)))) else (if a0 ≥ 913 then (if a0 ≤ 969 then (if a0 = 930 then (if a0 ≥ 1040 then (traceryref01_Class.j0 k a0 (decide (a0 ≤ 1103))) else (traceryref01_Class.j0 k a0 false)) else (traceryref01_Class.j0 k a0 true)) else (if a0 ≥ 1040 then (traceryref01_Class.j0 k a0 (decide (a0 ≤ 1103))) else (traceryref01_Class.j0 k a0 false))) else (if a0 ≥ 1040 then (traceryref01_Class.j0 k a0 (decide (a0 ≤ 1103))) else (traceryref01_Class.j0 k a0 false)))))) else (if a0 ≥ 65 then (if a0 ≤ 90 then (traceryref01_Class.j0 k a0 true) else (if a0 ≥ 192 then (if a0 ≤ 591 then (if a0 = 215 then (if a0 ≥ 913 then (if a0 ≤ 969 then (if a0 = 930 then (if a0 ≥ 1040 then (traceryref01_Class.j0 k a0 (decide (a0 ≤ 1103))) else (traceryref01_Class.j0 k a0 false)) else (traceryref01_Class.j0 k a0 true)) else (if a0 ≥ 1040 then (traceryref01_Class.j0 k a0 (decide (a0 ≤ 1103))) else (traceryref01_Class.j0 k a0 false))) else (if a0 ≥ 1040 then (traceryref01_Class.j0 k a0 (decide (a0 ≤ 1103))) else (traceryref01_Class.j0 k a0 false))) else (if a0 = 247 then (if a0 ≥ 913 then (if a0 ≤ 969 then (if a0 = 930 then (if a0 ≥ 1040 then (traceryref01_Class.j0 k a0 (decide (a0 ≤ 1103))) else (traceryref01_Class.j0 k a0 false)) else (traceryref01_Class.j0 k a0 true)) else (if a0 ≥ 1040 then (traceryref01_Class.j0 k a0 (decide (a0 ≤ 1103))) else (traceryref01_Class.j0 k a0 false))) else (if a0 ≥ 1040 then (traceryref01_Class.j0 k a0 (decide (a0 ≤ 1103))) else (traceryref01_Class.j0 k a0 false))) else (traceryref01_Class.j0 k a0 true))) else (if a0 ≥ 913 then (if a0 ≤ 969 then (if a0 = 930 then (if a0 ≥ 1040 then (traceryref01_Class.j0 k a0 (decide (a0 ≤ 1103))) else (traceryref01_Class.j0 k a0 false)) else (traceryref01_Class.j0 k a0 true)) else (if a0 ≥ 1040 then (traceryref01_Class.j0 k a0 (decide (a0 ≤ 1103))) else (traceryref01_Class.j0 k a0 false))) else (if a0 ≥ 1040 then (traceryref01_Class.j0 k a0 (decide (a0 ≤ 1103))) else (traceryref01_Class.j0 k a0 false)))) else (if a0 ≥ 913 then (if a0 ≤ 969 then (if a0 = 930 then (if a0 ≥ 1040 then (traceryref01_Class.j0 k a0 (decide (a0 ≤ 1103))) else (traceryref01_Class.j0 k a0 false)) else (traceryref01_Class.j0 k a0 true)) else (if a0 ≥ 1040 then (traceryref01_Class.j0 k a0 (decide (a0 ≤ 1103))) else (traceryref01_Class.j0 k a0 false))) else (if a0 ≥ 1040 then (traceryref01_Class.j0 k a0 (decide (a0 ≤ 1103))) else (traceryref01_Class.j0 k a0 false))))) else (if a0 ≥ 192 then (if a0 ≤ 591 then (if a0 = 215 then (if a0 ≥ 913 then (if a0 ≤ 969 then (if a0 = 930 then (if a0 ≥ 1040 then (traceryref01_Class.j0 k a0 (decide (a0 ≤ 1103))) else (traceryref01_Class.j0 k a0 false)) else (traceryref01_Class.j0 k a0 true)) else (if a0 ≥ 1040 then (traceryref01_Class.j0 k a0 (decide (a0 ≤ 1103))) else (traceryref01_Class.j0 k a0 false))) else (if a0 ≥ 1040 then (traceryref01_Class.j0 k a0 (decide (a0 ≤ 1103))) else (traceryref01_Class.j0 k a0 false))) else (if a0 = 247 then (if a0 ≥ 913 then (if a0 ≤ 969 then (if a0 = 930 then (if a0 ≥ 1040 then (traceryref01_Class.j0 k a0 (decide (a0 ≤ 1103))) else (traceryref01_Class.j0 k a0 false)) else (traceryref01_Class.j0 k a0 true)) else (if a0 ≥ 1040 then (traceryref01_Class.j0 k a0 (decide (a0 ≤ 1103))) else (traceryref01_Class.j0 k a0 false))) else (if a0 ≥ 1040 then (traceryref01_Class.j0 k a0 (decide (a0 ≤ 1103))) else (traceryref01_Class.j0 k a0 false))) else (traceryref01_Class.j0 k a0 true))) else (if a0 ≥ 913 then (if a0 ≤ 969 then (if a0 = 930 then (if a0 ≥ 1040 then (traceryref01_Class.j0 k a0 (decide (a0 ≤ 1103))) else (traceryref01_Class.j0 k a0 false)) else (traceryref01_Class.j0 k a0 true)) else (if a0 ≥ 1040 then (traceryref01_Class.j0 k a0 (decide (a0 ≤ 1103))) else (traceryref01_Class.j0 k a0 false))) else (if a0 ≥ 1040 then (traceryref01_Class.j0 k a0 (decide (a0 ≤ 1103))) else (traceryref01_Class.j0 k a0 false)))) else (if a0 ≥ 913 then (if a0 ≤ 969 then (if a0 = 930 then (if a0 ≥ 1040 then (traceryref01_Class.j0 k a0 (decide (a0 ≤ 1103))) else (traceryref01_Class.j0 k a0 false)) else (traceryref01_Class.j0 k a0 true)) else (if a0 ≥ 1040 then (traceryref01_Class.j0 k a0 (decide (a0 ≤ 1103))) else (traceryref01_Class.j0 k a0 false))) else (if a0 ≥ 1040 then (traceryref01_Class.j0 k a0 (decide (a0 ≤ 1103))) else (traceryref01_Class.j0 k a0 false)))))
theorem traceryref01_Class.mono_l : ∀ k, (∀ y0 y1, LeO (traceryref01_Class.j0 k y0 y1) (traceryref01_Class.j0 (k + 1) y0 y1)) ∧ (∀ y0 y1, LeO (traceryref01_Class.j1 k y0 y1) (traceryref01_Class.j1 (k + 1) y0 y1)) ∧ (∀ y0 y1, LeO (traceryref01_Class.j2 k y0 y1) (traceryref01_Class.j2 (k + 1) y0 y1))
  | 0 => ⟨fun _ _ r h => by simp [traceryref01_Class.j0] at h, fun _ _ r h => by simp [traceryref01_Class.j1] at h, fun _ _ r h => by simp [traceryref01_Class.j2] at h⟩
  | k + 1 => by
    obtain ⟨ih0, ih1, ih2⟩ := traceryref01_Class.mono_l k
    refine ⟨?_, ?_, ?_⟩
    · intro y0 y1
      unfold traceryref01_Class.j0
      repeat' first
      | (with_reducible exact ih0 _ _)
      | (with_reducible exact ih1 _ _)
      | (with_reducible exact ih2 _ _)
      | (with_reducible exact LeO.refl _)
      | (with_reducible exact LeO.none _)
      | (with_reducible refine LeO.ite ?_ ?_)
      | (with_reducible refine LeO.bind ?_ (fun _ => ?_))
      | exact ih0 _ _
      | exact ih1 _ _
      | exact ih2 _ _
      | exact LeO.none _
      | refine LeO.ite ?_ ?_
      | refine LeO.bind ?_ (fun _ => ?_)
    · intro y0 y1
      unfold traceryref01_Class.j1
      repeat' first
      | (with_reducible exact ih0 _ _)
      | (with_reducible exact ih1 _ _)
      | (with_reducible exact ih2 _ _)
      | (with_reducible exact LeO.refl _)
      | (with_reducible exact LeO.none _)
      | (with_reducible refine LeO.ite ?_ ?_)
      | (with_reducible refine LeO.bind ?_ (fun _ => ?_))
      | exact ih0 _ _
      | exact ih1 _ _
      | exact ih2 _ _
      | exact LeO.none _
      | refine LeO.ite ?_ ?_
      | refine LeO.bind ?_ (fun _ => ?_)
    · intro y0 y1
      unfold traceryref01_Class.j2
      repeat' first
      | (with_reducible exact ih0 _ _)
      | (with_reducible exact ih1 _ _)
      | (with_reducible exact ih2 _ _)
      | (with_reducible exact LeO.refl _)
      | (with_reducible exact LeO.none _)
      | (with_reducible refine LeO.ite ?_ ?_)
      | (with_reducible refine LeO.bind ?_ (fun _ => ?_))
      | exact ih0 _ _
      | exact ih1 _ _
      | exact ih2 _ _
      | exact LeO.none _
      | refine LeO.ite ?_ ?_
      | refine LeO.bind ?_ (fun _ => ?_)
theorem traceryref01_Class.mono : ∀ a0 k, LeO (traceryref01_Class.f k a0) (traceryref01_Class.f (k + 1) a0) := by
  intro a0 k
  obtain ⟨ih0, ih1, ih2⟩ := traceryref01_Class.mono_l k
  unfold traceryref01_Class.f
  repeat' first
      | (with_reducible exact ih0 _ _)
      | (with_reducible exact ih1 _ _)
      | (with_reducible exact ih2 _ _)
      | (with_reducible exact LeO.refl _)
      | (with_reducible exact LeO.none _)
      | (with_reducible refine LeO.ite ?_ ?_)
      | (with_reducible refine LeO.bind ?_ (fun _ => ?_))
      | exact ih0 _ _
      | exact ih1 _ _
      | exact ih2 _ _
      | exact LeO.none _
      | refine LeO.ite ?_ ?_
      | refine LeO.bind ?_ (fun _ => ?_)
set_option maxHeartbeats 8000000 in
set_option maxRecDepth 100000 in
theorem traceryref01_Class.calls (k : Nat) (a0 : Int) (r : Int) (w : World) (h : traceryref01_Class.f k a0 = some r) :
    Calls Try.prog 18 #[.int .i64 a0] w fun e w' => e = .returned (.int .i64 r) ∧ Drawn0 w w' := by
  have H : (if a0 ≥ 97 then (if a0 ≤ 122 then (traceryref01_Class.j0 k a0 true) else (if a0 ≥ 65 then (if a0 ≤ 90 then (traceryref01_Class.j0 k a0 true) else (if a0 ≥ 192 then (if a0 ≤ 591 then (if a0 = 215 then (if a0 ≥ 913 then (if a0 ≤ 969 then (if a0 = 930 then (if a0 ≥ 1040 then (traceryref01_Class.j0 k a0 (decide (a0 ≤ 1103))) else (traceryref01_Class.j0 k a0 false)) else (traceryref01_Class.j0 k a0 true)) else (if a0 ≥ 1040 then (traceryref01_Class.j0 k a0 (decide (a0 ≤ 1103))) else (traceryref01_Class.j0 k a0 false))) else (if a0 ≥ 1040 then (traceryref01_Class.j0 k a0 (decide (a0 ≤ 1103))) else (traceryref01_Class.j0 k a0 false))) else (if a0 = 247 then (if a0 ≥ 913 then (if a0 ≤ 969 then (if a0 = 930 then (if a0 ≥ 1040 then (traceryref01_Class.j0 k a0 (decide (a0 ≤ 1103))) else (traceryref01_Class.j0 k a0 false)) else (traceryref01_Class.j0 k a0 true)) else (if a0 ≥ 1040 then (traceryref01_Class.j0 k a0 (decide (a0 ≤ 1103))) else (traceryref01_Class.j0 k a0 false))) else (if a0 ≥ 1040 then (traceryref01_Class.j0 k a0 (decide (a0 ≤ 1103))) else (traceryref01_Class.j0 k a0 false))) else (traceryref01_Class.j0 k a0 true))) else (if a0 ≥ 913 then (if a0 ≤ 969 then (if a0 = 930 then (if a0 ≥ 1040 then (traceryref01_Class.j0 k a0 (decide (a0 ≤ 1103))) else (traceryref01_Class.j0 k a0 false)) else (traceryref01_Class.j0 k a0 true)) else (if a0 ≥ 1040 then (traceryref01_Class.j0 k a0 (decide (a0 ≤ 1103))) else (traceryref01_Class.j0 k a0 false))) else (if a0 ≥ 1040 then (traceryref01_Class.j0 k a0 (decide (a0 ≤ 1103))) else (traceryref01_Class.j0 k a0 false)))) else (if a0 ≥ 913 then (if a0 ≤ 969 then (if a0 = 930 then (if a0 ≥ 1040 then (traceryref01_Class.j0 k a0 (decide (a0 ≤ 1103))) else (traceryref01_Class.j0 k a0 false)) else (traceryref01_Class.j0 k a0 true)) else (if a0 ≥ 1040 then (traceryref01_Class.j0 k a0 (decide (a0 ≤ 1103))) else (traceryref01_Class.j0 k a0 false))) else (if a0 ≥ 1040 then (traceryref01_Class.j0 k a0 (decide (a0 ≤ 1103))) else (traceryref01_Class.j0 k a0 false))))) else (if a0 ≥ 192 then (if a0 ≤ 591 then (if a0 = 215 then (if a0 ≥ 913 then (if a0 ≤ 969 then (if a0 = 930 then (if a0 ≥ 1040 then (traceryref01_Class.j0 k a0 (decide (a0 ≤ 1103))) else (traceryref01_Class.j0 k a0 false)) else (traceryref01_Class.j0 k a0 true)) else (if a0 ≥ 1040 then (traceryref01_Class.j0 k a0 (decide (a0 ≤ 1103))) else (traceryref01_Class.j0 k a0 false))) else (if a0 ≥ 1040 then (traceryref01_Class.j0 k a0 (decide (a0 ≤ 1103))) else (traceryref01_Class.j0 k a0 false))) else (if a0 = 247 then (if a0 ≥ 913 then (if a0 ≤ 969 then (if a0 = 930 then (if a0 ≥ 1040 then (traceryref01_Class.j0 k a0 (decide (a0 ≤ 1103))) else (traceryref01_Class.j0 k a0 false)) else (traceryref01_Class.j0 k a0 true)) else (if a0 ≥ 1040 then (traceryref01_Class.j0 k a0 (decide (a0 ≤ 1103))) else (traceryref01_Class.j0 k a0 false))) else (if a0 ≥ 1040 then (traceryref01_Class.j0 k a0 (decide (a0 ≤ 1103))) else (traceryref01_Class.j0 k a0 false))) else (traceryref01_Class.j0 k a0 true))) else (if a0 ≥ 913 then (if a0 ≤ 969 then (if a0 = 930 then (if a0 ≥ 1040 then (traceryref01_Class.j0 k a0 (decide (a0 ≤ 1103))) else (traceryref01_Class.j0 k a0 false)) else (traceryref01_Class.j0 k a0 true)) else (if a0 ≥ 1040 then (traceryref01_Class.j0 k a0 (decide (a0 ≤ 1103))) else (traceryref01_Class.j0 k a0 false))) else (if a0 ≥ 1040 then (traceryref01_Class.j0 k a0 (decide (a0 ≤ 1103))) else (traceryref01_Class.j0 k a0 false)))) else (if a0 ≥ 913 then (if a0 ≤ 969 then (if a0 = 930 then (if a0 ≥ 1040 then (traceryref01_Class.j0 k a0 (decide (a0 ≤ 1103))) else (traceryref01_Class.j0 k a0 false)) else (traceryref01_Class.j0 k a0 true)) else (if a0 ≥ 1040 then (traceryref01_Class.j0 k a0 (decide (a0 ≤ 1103))) else (traceryref01_Class.j0 k a0 false))) else (if a0 ≥ 1040 then (traceryref01_Class.j0 k a0 (decide (a0 ≤ 1103))) else (traceryref01_Class.j0 k a0 false)))))) else (if a0 ≥ 65 then (if a0 ≤ 90 then (traceryref01_Class.j0 k a0 true) else (if a0 ≥ 192 then (if a0 ≤ 591 then (if a0 = 215 then (if a0 ≥ 913 then (if a0 ≤ 969 then (if a0 = 930 then (if a0 ≥ 1040 then (traceryref01_Class.j0 k a0 (decide (a0 ≤ 1103))) else (traceryref01_Class.j0 k a0 false)) else (traceryref01_Class.j0 k a0 true)) else (if a0 ≥ 1040 then (traceryref01_Class.j0 k a0 (decide (a0 ≤ 1103))) else (traceryref01_Class.j0 k a0 false))) else (if a0 ≥ 1040 then (traceryref01_Class.j0 k a0 (decide (a0 ≤ 1103))) else (traceryref01_Class.j0 k a0 false))) else (if a0 = 247 then (if a0 ≥ 913 then (if a0 ≤ 969 then (if a0 = 930 then (if a0 ≥ 1040 then (traceryref01_Class.j0 k a0 (decide (a0 ≤ 1103))) else (traceryref01_Class.j0 k a0 false)) else (traceryref01_Class.j0 k a0 true)) else (if a0 ≥ 1040 then (traceryref01_Class.j0 k a0 (decide (a0 ≤ 1103))) else (traceryref01_Class.j0 k a0 false))) else (if a0 ≥ 1040 then (traceryref01_Class.j0 k a0 (decide (a0 ≤ 1103))) else (traceryref01_Class.j0 k a0 false))) else (traceryref01_Class.j0 k a0 true))) else (if a0 ≥ 913 then (if a0 ≤ 969 then (if a0 = 930 then (if a0 ≥ 1040 then (traceryref01_Class.j0 k a0 (decide (a0 ≤ 1103))) else (traceryref01_Class.j0 k a0 false)) else (traceryref01_Class.j0 k a0 true)) else (if a0 ≥ 1040 then (traceryref01_Class.j0 k a0 (decide (a0 ≤ 1103))) else (traceryref01_Class.j0 k a0 false))) else (if a0 ≥ 1040 then (traceryref01_Class.j0 k a0 (decide (a0 ≤ 1103))) else (traceryref01_Class.j0 k a0 false)))) else (if a0 ≥ 913 then (if a0 ≤ 969 then (if a0 = 930 then (if a0 ≥ 1040 then (traceryref01_Class.j0 k a0 (decide (a0 ≤ 1103))) else (traceryref01_Class.j0 k a0 false)) else (traceryref01_Class.j0 k a0 true)) else (if a0 ≥ 1040 then (traceryref01_Class.j0 k a0 (decide (a0 ≤ 1103))) else (traceryref01_Class.j0 k a0 false))) else (if a0 ≥ 1040 then (traceryref01_Class.j0 k a0 (decide (a0 ≤ 1103))) else (traceryref01_Class.j0 k a0 false))))) else (if a0 ≥ 192 then (if a0 ≤ 591 then (if a0 = 215 then (if a0 ≥ 913 then (if a0 ≤ 969 then (if a0 = 930 then (if a0 ≥ 1040 then (traceryref01_Class.j0 k a0 (decide (a0 ≤ 1103))) else (traceryref01_Class.j0 k a0 false)) else (traceryref01_Class.j0 k a0 true)) else (if a0 ≥ 1040 then (traceryref01_Class.j0 k a0 (decide (a0 ≤ 1103))) else (traceryref01_Class.j0 k a0 false))) else (if a0 ≥ 1040 then (traceryref01_Class.j0 k a0 (decide (a0 ≤ 1103))) else (traceryref01_Class.j0 k a0 false))) else (if a0 = 247 then (if a0 ≥ 913 then (if a0 ≤ 969 then (if a0 = 930 then (if a0 ≥ 1040 then (traceryref01_Class.j0 k a0 (decide (a0 ≤ 1103))) else (traceryref01_Class.j0 k a0 false)) else (traceryref01_Class.j0 k a0 true)) else (if a0 ≥ 1040 then (traceryref01_Class.j0 k a0 (decide (a0 ≤ 1103))) else (traceryref01_Class.j0 k a0 false))) else (if a0 ≥ 1040 then (traceryref01_Class.j0 k a0 (decide (a0 ≤ 1103))) else (traceryref01_Class.j0 k a0 false))) else (traceryref01_Class.j0 k a0 true))) else (if a0 ≥ 913 then (if a0 ≤ 969 then (if a0 = 930 then (if a0 ≥ 1040 then (traceryref01_Class.j0 k a0 (decide (a0 ≤ 1103))) else (traceryref01_Class.j0 k a0 false)) else (traceryref01_Class.j0 k a0 true)) else (if a0 ≥ 1040 then (traceryref01_Class.j0 k a0 (decide (a0 ≤ 1103))) else (traceryref01_Class.j0 k a0 false))) else (if a0 ≥ 1040 then (traceryref01_Class.j0 k a0 (decide (a0 ≤ 1103))) else (traceryref01_Class.j0 k a0 false)))) else (if a0 ≥ 913 then (if a0 ≤ 969 then (if a0 = 930 then (if a0 ≥ 1040 then (traceryref01_Class.j0 k a0 (decide (a0 ≤ 1103))) else (traceryref01_Class.j0 k a0 false)) else (traceryref01_Class.j0 k a0 true)) else (if a0 ≥ 1040 then (traceryref01_Class.j0 k a0 (decide (a0 ≤ 1103))) else (traceryref01_Class.j0 k a0 false))) else (if a0 ≥ 1040 then (traceryref01_Class.j0 k a0 (decide (a0 ≤ 1103))) else (traceryref01_Class.j0 k a0 false)))))) = some r := h
  clear h
  have HC2 := Aside0.mk H
  clear H
  go_enter Try.func18, Try.ntmps18
  go_upto_region 1 with (fail)
  go_cut [52] (fun v52 wc => ∃ (kq : Nat) (x52_1 : Bool), v52 = .bool x52_1 ∧ Aside0 (traceryref01_Class.j0 kq a0 x52_1 = some r) ∧ Aside0 (kq ≤ k) ∧ Drawn0 w wc)
  case first =>
    have H := HC2.out
    clear HC2
    by_cases c3 : a0 ≥ 97
    · rw [if_pos c3] at H
      have c3b0 : decide (97 ≤ a0) = true := decide_eq_true c3
      clear c3
      (first | rw [c3b0] | (simp only [i64_w, i32_w]; rw [c3b0]) | skip)
      by_cases c4 : a0 ≤ 122
      · rw [if_pos c4] at H
        have c4b0 : decide (a0 ≤ 122) = true := decide_eq_true c4
        clear c4
        have H' := Aside0.mk H
        clear H
        go_wp2
        go_meet
        case rel => exact ⟨_, (true), (by first | rfl | (simp; done) | (simp [*]; done)), H', ⟨by first | omega | exact Nat.le_refl _⟩, by repeat (first | exact Drawn0.refl _ | apply Drawn0.step)⟩
      · rw [if_neg c4] at H
        have c4b0 : decide (a0 ≤ 122) = false := decide_eq_false c4
        clear c4
        by_cases c5 : a0 ≥ 65
        · rw [if_pos c5] at H
          have c5b0 : decide (65 ≤ a0) = true := decide_eq_true c5
          clear c5
          by_cases c6 : a0 ≤ 90
          · rw [if_pos c6] at H
            have c6b0 : decide (a0 ≤ 90) = true := decide_eq_true c6
            clear c6
            have H' := Aside0.mk H
            clear H
            go_wp2
            go_meet
            case rel => exact ⟨_, (true), (by first | rfl | (simp; done) | (simp [*]; done)), H', ⟨by first | omega | exact Nat.le_refl _⟩, by repeat (first | exact Drawn0.refl _ | apply Drawn0.step)⟩
          · rw [if_neg c6] at H
            have c6b0 : decide (a0 ≤ 90) = false := decide_eq_false c6
            clear c6
            by_cases c7 : a0 ≥ 192
            · rw [if_pos c7] at H
              have c7b0 : decide (192 ≤ a0) = true := decide_eq_true c7
              clear c7
              by_cases c8 : a0 ≤ 591
              · rw [if_pos c8] at H
                have c8b0 : decide (a0 ≤ 591) = true := decide_eq_true c8
                clear c8
                by_cases c9 : a0 = 215
                · rw [if_pos c9] at H
                  have c9b0 : (a0 == 215) = true := beq_iff_eq.mpr c9
                  have c9b1 : (a0 != 215) = false := bne_eq_false_iff_eq.mpr c9
                  clear c9
                  by_cases c10 : a0 ≥ 913
                  · rw [if_pos c10] at H
                    have c10b0 : decide (913 ≤ a0) = true := decide_eq_true c10
                    clear c10
                    by_cases c11 : a0 ≤ 969
                    · rw [if_pos c11] at H
                      have c11b0 : decide (a0 ≤ 969) = true := decide_eq_true c11
                      clear c11
                      by_cases c12 : a0 = 930
                      · rw [if_pos c12] at H
                        have c12b0 : (a0 == 930) = true := beq_iff_eq.mpr c12
                        have c12b1 : (a0 != 930) = false := bne_eq_false_iff_eq.mpr c12
                        clear c12
                        by_cases c13 : a0 ≥ 1040
                        · rw [if_pos c13] at H
                          have c13b0 : decide (1040 ≤ a0) = true := decide_eq_true c13
                          clear c13
                          have H' := Aside0.mk H
                          clear H
                          go_wp2
                          go_meet
                          case rel => exact ⟨_, (decide (a0 ≤ 1103)), (by first | rfl | (simp; done) | (simp [*]; done)), H', ⟨by first | omega | exact Nat.le_refl _⟩, by repeat (first | exact Drawn0.refl _ | apply Drawn0.step)⟩
                        · rw [if_neg c13] at H
                          have c13b0 : decide (1040 ≤ a0) = false := decide_eq_false c13
                          clear c13
                          have H' := Aside0.mk H
                          clear H
                          go_wp2
                          go_meet
                          case rel => exact ⟨_, (false), (by first | rfl | (simp; done) | (simp [*]; done)), H', ⟨by first | omega | exact Nat.le_refl _⟩, by repeat (first | exact Drawn0.refl _ | apply Drawn0.step)⟩
                      · rw [if_neg c12] at H
                        have c12b0 : (a0 == 930) = false := beq_eq_false_iff_ne.mpr c12
                        have c12b1 : (a0 != 930) = true := bne_iff_ne.mpr c12
                        have H' := Aside0.mk H
                        clear H
                        go_wp2
                        go_meet
                        case rel => exact ⟨_, (true), (by first | rfl | (simp; done) | (simp [*]; done)), H', ⟨by first | omega | exact Nat.le_refl _⟩, by repeat (first | exact Drawn0.refl _ | apply Drawn0.step)⟩
                    · rw [if_neg c11] at H
                      have c11b0 : decide (a0 ≤ 969) = false := decide_eq_false c11
                      clear c11
                      by_cases c14 : a0 ≥ 1040
                      · rw [if_pos c14] at H
                        have c14b0 : decide (1040 ≤ a0) = true := decide_eq_true c14
                        clear c14
                        have H' := Aside0.mk H
                        clear H
                        go_wp2
                        go_meet
                        case rel => exact ⟨_, (decide (a0 ≤ 1103)), (by first | rfl | (simp; done) | (simp [*]; done)), H', ⟨by first | omega | exact Nat.le_refl _⟩, by repeat (first | exact Drawn0.refl _ | apply Drawn0.step)⟩
                      · rw [if_neg c14] at H
                        have c14b0 : decide (1040 ≤ a0) = false := decide_eq_false c14
                        clear c14
                        have H' := Aside0.mk H
                        clear H
                        go_wp2
                        go_meet
                        case rel => exact ⟨_, (false), (by first | rfl | (simp; done) | (simp [*]; done)), H', ⟨by first | omega | exact Nat.le_refl _⟩, by repeat (first | exact Drawn0.refl _ | apply Drawn0.step)⟩
                  · rw [if_neg c10] at H
                    have c10b0 : decide (913 ≤ a0) = false := decide_eq_false c10
                    clear c10
                    by_cases c15 : a0 ≥ 1040
                    · rw [if_pos c15] at H
                      have c15b0 : decide (1040 ≤ a0) = true := decide_eq_true c15
                      clear c15
                      have H' := Aside0.mk H
                      clear H
                      go_wp2
                      go_meet
                      case rel => exact ⟨_, (decide (a0 ≤ 1103)), (by first | rfl | (simp; done) | (simp [*]; done)), H', ⟨by first | omega | exact Nat.le_refl _⟩, by repeat (first | exact Drawn0.refl _ | apply Drawn0.step)⟩
                    · rw [if_neg c15] at H
                      have c15b0 : decide (1040 ≤ a0) = false := decide_eq_false c15
                      clear c15
                      have H' := Aside0.mk H
                      clear H
                      go_wp2
                      go_meet
                      case rel => exact ⟨_, (false), (by first | rfl | (simp; done) | (simp [*]; done)), H', ⟨by first | omega | exact Nat.le_refl _⟩, by repeat (first | exact Drawn0.refl _ | apply Drawn0.step)⟩
                · rw [if_neg c9] at H
                  have c9b0 : (a0 == 215) = false := beq_eq_false_iff_ne.mpr c9
                  have c9b1 : (a0 != 215) = true := bne_iff_ne.mpr c9
                  by_cases c16 : a0 = 247
                  · rw [if_pos c16] at H
                    have c16b0 : (a0 == 247) = true := beq_iff_eq.mpr c16
                    have c16b1 : (a0 != 247) = false := bne_eq_false_iff_eq.mpr c16
                    clear c16
                    by_cases c17 : a0 ≥ 913
                    · rw [if_pos c17] at H
                      have c17b0 : decide (913 ≤ a0) = true := decide_eq_true c17
                      clear c17
                      by_cases c18 : a0 ≤ 969
                      · rw [if_pos c18] at H
                        have c18b0 : decide (a0 ≤ 969) = true := decide_eq_true c18
                        clear c18
                        by_cases c19 : a0 = 930
                        · rw [if_pos c19] at H
                          have c19b0 : (a0 == 930) = true := beq_iff_eq.mpr c19
                          have c19b1 : (a0 != 930) = false := bne_eq_false_iff_eq.mpr c19
                          clear c19
                          by_cases c20 : a0 ≥ 1040
                          · rw [if_pos c20] at H
                            have c20b0 : decide (1040 ≤ a0) = true := decide_eq_true c20
                            clear c20
                            have H' := Aside0.mk H
                            clear H
                            go_wp2
                            go_meet
                            case rel => exact ⟨_, (decide (a0 ≤ 1103)), (by first | rfl | (simp; done) | (simp [*]; done)), H', ⟨by first | omega | exact Nat.le_refl _⟩, by repeat (first | exact Drawn0.refl _ | apply Drawn0.step)⟩
                          · rw [if_neg c20] at H
                            have c20b0 : decide (1040 ≤ a0) = false := decide_eq_false c20
                            clear c20
                            have H' := Aside0.mk H
                            clear H
                            go_wp2
                            go_meet
                            case rel => exact ⟨_, (false), (by first | rfl | (simp; done) | (simp [*]; done)), H', ⟨by first | omega | exact Nat.le_refl _⟩, by repeat (first | exact Drawn0.refl _ | apply Drawn0.step)⟩
                        · rw [if_neg c19] at H
                          have c19b0 : (a0 == 930) = false := beq_eq_false_iff_ne.mpr c19
                          have c19b1 : (a0 != 930) = true := bne_iff_ne.mpr c19
                          have H' := Aside0.mk H
                          clear H
                          go_wp2
                          go_meet
                          case rel => exact ⟨_, (true), (by first | rfl | (simp; done) | (simp [*]; done)), H', ⟨by first | omega | exact Nat.le_refl _⟩, by repeat (first | exact Drawn0.refl _ | apply Drawn0.step)⟩
                      · rw [if_neg c18] at H
                        have c18b0 : decide (a0 ≤ 969) = false := decide_eq_false c18
                        clear c18
                        by_cases c21 : a0 ≥ 1040
                        · rw [if_pos c21] at H
                          have c21b0 : decide (1040 ≤ a0) = true := decide_eq_true c21
                          clear c21
                          have H' := Aside0.mk H
                          clear H
                          go_wp2
                          go_meet
                          case rel => exact ⟨_, (decide (a0 ≤ 1103)), (by first | rfl | (simp; done) | (simp [*]; done)), H', ⟨by first | omega | exact Nat.le_refl _⟩, by repeat (first | exact Drawn0.refl _ | apply Drawn0.step)⟩
                        · rw [if_neg c21] at H
                          have c21b0 : decide (1040 ≤ a0) = false := decide_eq_false c21
                          clear c21
                          have H' := Aside0.mk H
                          clear H
                          go_wp2
                          go_meet
                          case rel => exact ⟨_, (false), (by first | rfl | (simp; done) | (simp [*]; done)), H', ⟨by first | omega | exact Nat.le_refl _⟩, by repeat (first | exact Drawn0.refl _ | apply Drawn0.step)⟩
                    · rw [if_neg c17] at H
                      have c17b0 : decide (913 ≤ a0) = false := decide_eq_false c17
                      clear c17
                      by_cases c22 : a0 ≥ 1040
                      · rw [if_pos c22] at H
                        have c22b0 : decide (1040 ≤ a0) = true := decide_eq_true c22
                        clear c22
                        have H' := Aside0.mk H
                        clear H
                        go_wp2
                        go_meet
                        case rel => exact ⟨_, (decide (a0 ≤ 1103)), (by first | rfl | (simp; done) | (simp [*]; done)), H', ⟨by first | omega | exact Nat.le_refl _⟩, by repeat (first | exact Drawn0.refl _ | apply Drawn0.step)⟩
                      · rw [if_neg c22] at H
                        have c22b0 : decide (1040 ≤ a0) = false := decide_eq_false c22
                        clear c22
                        have H' := Aside0.mk H
                        clear H
                        go_wp2
                        go_meet
                        case rel => exact ⟨_, (false), (by first | rfl | (simp; done) | (simp [*]; done)), H', ⟨by first | omega | exact Nat.le_refl _⟩, by repeat (first | exact Drawn0.refl _ | apply Drawn0.step)⟩
                  · rw [if_neg c16] at H
                    have c16b0 : (a0 == 247) = false := beq_eq_false_iff_ne.mpr c16
                    have c16b1 : (a0 != 247) = true := bne_iff_ne.mpr c16
                    have H' := Aside0.mk H
                    clear H
                    go_wp2
                    go_meet
                    case rel => exact ⟨_, (true), (by first | rfl | (simp; done) | (simp [*]; done)), H', ⟨by first | omega | exact Nat.le_refl _⟩, by repeat (first | exact Drawn0.refl _ | apply Drawn0.step)⟩
              · rw [if_neg c8] at H
                have c8b0 : decide (a0 ≤ 591) = false := decide_eq_false c8
                clear c8
                by_cases c23 : a0 ≥ 913
                · rw [if_pos c23] at H
                  have c23b0 : decide (913 ≤ a0) = true := decide_eq_true c23
                  clear c23
                  by_cases c24 : a0 ≤ 969
                  · rw [if_pos c24] at H
                    have c24b0 : decide (a0 ≤ 969) = true := decide_eq_true c24
                    clear c24
                    by_cases c25 : a0 = 930
                    · rw [if_pos c25] at H
                      have c25b0 : (a0 == 930) = true := beq_iff_eq.mpr c25
                      have c25b1 : (a0 != 930) = false := bne_eq_false_iff_eq.mpr c25
                      clear c25
                      by_cases c26 : a0 ≥ 1040
                      · rw [if_pos c26] at H
                        have c26b0 : decide (1040 ≤ a0) = true := decide_eq_true c26
                        clear c26
                        have H' := Aside0.mk H
                        clear H
                        go_wp2
                        go_meet
                        case rel => exact ⟨_, (decide (a0 ≤ 1103)), (by first | rfl | (simp; done) | (simp [*]; done)), H', ⟨by first | omega | exact Nat.le_refl _⟩, by repeat (first | exact Drawn0.refl _ | apply Drawn0.step)⟩
                      · rw [if_neg c26] at H
                        have c26b0 : decide (1040 ≤ a0) = false := decide_eq_false c26
                        clear c26
                        have H' := Aside0.mk H
                        clear H
                        go_wp2
                        go_meet
                        case rel => exact ⟨_, (false), (by first | rfl | (simp; done) | (simp [*]; done)), H', ⟨by first | omega | exact Nat.le_refl _⟩, by repeat (first | exact Drawn0.refl _ | apply Drawn0.step)⟩
                    · rw [if_neg c25] at H
                      have c25b0 : (a0 == 930) = false := beq_eq_false_iff_ne.mpr c25
                      have c25b1 : (a0 != 930) = true := bne_iff_ne.mpr c25
                      have H' := Aside0.mk H
                      clear H
                      go_wp2
                      go_meet
                      case rel => exact ⟨_, (true), (by first | rfl | (simp; done) | (simp [*]; done)), H', ⟨by first | omega | exact Nat.le_refl _⟩, by repeat (first | exact Drawn0.refl _ | apply Drawn0.step)⟩
                  · rw [if_neg c24] at H
                    have c24b0 : decide (a0 ≤ 969) = false := decide_eq_false c24
                    clear c24
                    by_cases c27 : a0 ≥ 1040
                    · rw [if_pos c27] at H
                      have c27b0 : decide (1040 ≤ a0) = true := decide_eq_true c27
                      clear c27
                      have H' := Aside0.mk H
                      clear H
                      go_wp2
                      go_meet
                      case rel => exact ⟨_, (decide (a0 ≤ 1103)), (by first | rfl | (simp; done) | (simp [*]; done)), H', ⟨by first | omega | exact Nat.le_refl _⟩, by repeat (first | exact Drawn0.refl _ | apply Drawn0.step)⟩
                    · rw [if_neg c27] at H
                      have c27b0 : decide (1040 ≤ a0) = false := decide_eq_false c27
                      clear c27
                      have H' := Aside0.mk H
                      clear H
                      go_wp2
                      go_meet
                      case rel => exact ⟨_, (false), (by first | rfl | (simp; done) | (simp [*]; done)), H', ⟨by first | omega | exact Nat.le_refl _⟩, by repeat (first | exact Drawn0.refl _ | apply Drawn0.step)⟩
                · rw [if_neg c23] at H
                  have c23b0 : decide (913 ≤ a0) = false := decide_eq_false c23
                  clear c23
                  by_cases c28 : a0 ≥ 1040
                  · rw [if_pos c28] at H
                    have c28b0 : decide (1040 ≤ a0) = true := decide_eq_true c28
                    clear c28
                    have H' := Aside0.mk H
                    clear H
                    go_wp2
                    go_meet
                    case rel => exact ⟨_, (decide (a0 ≤ 1103)), (by first | rfl | (simp; done) | (simp [*]; done)), H', ⟨by first | omega | exact Nat.le_refl _⟩, by repeat (first | exact Drawn0.refl _ | apply Drawn0.step)⟩
                  · rw [if_neg c28] at H
                    have c28b0 : decide (1040 ≤ a0) = false := decide_eq_false c28
                    clear c28
                    have H' := Aside0.mk H
                    clear H
                    go_wp2
                    go_meet
                    case rel => exact ⟨_, (false), (by first | rfl | (simp; done) | (simp [*]; done)), H', ⟨by first | omega | exact Nat.le_refl _⟩, by repeat (first | exact Drawn0.refl _ | apply Drawn0.step)⟩
            · rw [if_neg c7] at H
              have c7b0 : decide (192 ≤ a0) = false := decide_eq_false c7
              clear c7
              by_cases c29 : a0 ≥ 913
              · rw [if_pos c29] at H
                have c29b0 : decide (913 ≤ a0) = true := decide_eq_true c29
                clear c29
                by_cases c30 : a0 ≤ 969
                · rw [if_pos c30] at H
                  have c30b0 : decide (a0 ≤ 969) = true := decide_eq_true c30
                  clear c30
                  by_cases c31 : a0 = 930
                  · rw [if_pos c31] at H
                    have c31b0 : (a0 == 930) = true := beq_iff_eq.mpr c31
                    have c31b1 : (a0 != 930) = false := bne_eq_false_iff_eq.mpr c31
                    clear c31
                    by_cases c32 : a0 ≥ 1040
                    · rw [if_pos c32] at H
                      have c32b0 : decide (1040 ≤ a0) = true := decide_eq_true c32
                      clear c32
                      have H' := Aside0.mk H
                      clear H
                      go_wp2
                      go_meet
                      case rel => exact ⟨_, (decide (a0 ≤ 1103)), (by first | rfl | (simp; done) | (simp [*]; done)), H', ⟨by first | omega | exact Nat.le_refl _⟩, by repeat (first | exact Drawn0.refl _ | apply Drawn0.step)⟩
                    · rw [if_neg c32] at H
                      have c32b0 : decide (1040 ≤ a0) = false := decide_eq_false c32
                      clear c32
                      have H' := Aside0.mk H
                      clear H
                      go_wp2
                      go_meet
                      case rel => exact ⟨_, (false), (by first | rfl | (simp; done) | (simp [*]; done)), H', ⟨by first | omega | exact Nat.le_refl _⟩, by repeat (first | exact Drawn0.refl _ | apply Drawn0.step)⟩
                  · rw [if_neg c31] at H
                    have c31b0 : (a0 == 930) = false := beq_eq_false_iff_ne.mpr c31
                    have c31b1 : (a0 != 930) = true := bne_iff_ne.mpr c31
                    have H' := Aside0.mk H
                    clear H
                    go_wp2
                    go_meet
                    case rel => exact ⟨_, (true), (by first | rfl | (simp; done) | (simp [*]; done)), H', ⟨by first | omega | exact Nat.le_refl _⟩, by repeat (first | exact Drawn0.refl _ | apply Drawn0.step)⟩
                · rw [if_neg c30] at H
                  have c30b0 : decide (a0 ≤ 969) = false := decide_eq_false c30
                  clear c30
                  by_cases c33 : a0 ≥ 1040
                  · rw [if_pos c33] at H
                    have c33b0 : decide (1040 ≤ a0) = true := decide_eq_true c33
                    clear c33
                    have H' := Aside0.mk H
                    clear H
                    go_wp2
                    go_meet
                    case rel => exact ⟨_, (decide (a0 ≤ 1103)), (by first | rfl | (simp; done) | (simp [*]; done)), H', ⟨by first | omega | exact Nat.le_refl _⟩, by repeat (first | exact Drawn0.refl _ | apply Drawn0.step)⟩
                  · rw [if_neg c33] at H
                    have c33b0 : decide (1040 ≤ a0) = false := decide_eq_false c33
                    clear c33
                    have H' := Aside0.mk H
                    clear H
                    go_wp2
                    go_meet
                    case rel => exact ⟨_, (false), (by first | rfl | (simp; done) | (simp [*]; done)), H', ⟨by first | omega | exact Nat.le_refl _⟩, by repeat (first | exact Drawn0.refl _ | apply Drawn0.step)⟩
              · rw [if_neg c29] at H
                have c29b0 : decide (913 ≤ a0) = false := decide_eq_false c29
                clear c29
                by_cases c34 : a0 ≥ 1040
                · rw [if_pos c34] at H
                  have c34b0 : decide (1040 ≤ a0) = true := decide_eq_true c34
                  clear c34
                  have H' := Aside0.mk H
                  clear H
                  go_wp2
                  go_meet
                  case rel => exact ⟨_, (decide (a0 ≤ 1103)), (by first | rfl | (simp; done) | (simp [*]; done)), H', ⟨by first | omega | exact Nat.le_refl _⟩, by repeat (first | exact Drawn0.refl _ | apply Drawn0.step)⟩
                · rw [if_neg c34] at H
                  have c34b0 : decide (1040 ≤ a0) = false := decide_eq_false c34
                  clear c34
                  have H' := Aside0.mk H
                  clear H
                  go_wp2
                  go_meet
                  case rel => exact ⟨_, (false), (by first | rfl | (simp; done) | (simp [*]; done)), H', ⟨by first | omega | exact Nat.le_refl _⟩, by repeat (first | exact Drawn0.refl _ | apply Drawn0.step)⟩
        · rw [if_neg c5] at H
          have c5b0 : decide (65 ≤ a0) = false := decide_eq_false c5
          clear c5
          by_cases c35 : a0 ≥ 192
          · rw [if_pos c35] at H
            have c35b0 : decide (192 ≤ a0) = true := decide_eq_true c35
            clear c35
            by_cases c36 : a0 ≤ 591
            · rw [if_pos c36] at H
              have c36b0 : decide (a0 ≤ 591) = true := decide_eq_true c36
              clear c36
              by_cases c37 : a0 = 215
              · rw [if_pos c37] at H
                have c37b0 : (a0 == 215) = true := beq_iff_eq.mpr c37
                have c37b1 : (a0 != 215) = false := bne_eq_false_iff_eq.mpr c37
                clear c37
                by_cases c38 : a0 ≥ 913
                · rw [if_pos c38] at H
                  have c38b0 : decide (913 ≤ a0) = true := decide_eq_true c38
                  clear c38
                  by_cases c39 : a0 ≤ 969
                  · rw [if_pos c39] at H
                    have c39b0 : decide (a0 ≤ 969) = true := decide_eq_true c39
                    clear c39
                    by_cases c40 : a0 = 930
                    · rw [if_pos c40] at H
                      have c40b0 : (a0 == 930) = true := beq_iff_eq.mpr c40
                      have c40b1 : (a0 != 930) = false := bne_eq_false_iff_eq.mpr c40
                      clear c40
                      by_cases c41 : a0 ≥ 1040
                      · rw [if_pos c41] at H
                        have c41b0 : decide (1040 ≤ a0) = true := decide_eq_true c41
                        clear c41
                        have H' := Aside0.mk H
                        clear H
                        go_wp2
                        go_meet
                        case rel => exact ⟨_, (decide (a0 ≤ 1103)), (by first | rfl | (simp; done) | (simp [*]; done)), H', ⟨by first | omega | exact Nat.le_refl _⟩, by repeat (first | exact Drawn0.refl _ | apply Drawn0.step)⟩
                      · rw [if_neg c41] at H
                        have c41b0 : decide (1040 ≤ a0) = false := decide_eq_false c41
                        clear c41
                        have H' := Aside0.mk H
                        clear H
                        go_wp2
                        go_meet
                        case rel => exact ⟨_, (false), (by first | rfl | (simp; done) | (simp [*]; done)), H', ⟨by first | omega | exact Nat.le_refl _⟩, by repeat (first | exact Drawn0.refl _ | apply Drawn0.step)⟩
                    · rw [if_neg c40] at H
                      have c40b0 : (a0 == 930) = false := beq_eq_false_iff_ne.mpr c40
                      have c40b1 : (a0 != 930) = true := bne_iff_ne.mpr c40
                      have H' := Aside0.mk H
                      clear H
                      go_wp2
                      go_meet
                      case rel => exact ⟨_, (true), (by first | rfl | (simp; done) | (simp [*]; done)), H', ⟨by first | omega | exact Nat.le_refl _⟩, by repeat (first | exact Drawn0.refl _ | apply Drawn0.step)⟩
                  · rw [if_neg c39] at H
                    have c39b0 : decide (a0 ≤ 969) = false := decide_eq_false c39
                    clear c39
                    by_cases c42 : a0 ≥ 1040
                    · rw [if_pos c42] at H
                      have c42b0 : decide (1040 ≤ a0) = true := decide_eq_true c42
                      clear c42
                      have H' := Aside0.mk H
                      clear H
                      go_wp2
                      go_meet
                      case rel => exact ⟨_, (decide (a0 ≤ 1103)), (by first | rfl | (simp; done) | (simp [*]; done)), H', ⟨by first | omega | exact Nat.le_refl _⟩, by repeat (first | exact Drawn0.refl _ | apply Drawn0.step)⟩
                    · rw [if_neg c42] at H
                      have c42b0 : decide (1040 ≤ a0) = false := decide_eq_false c42
                      clear c42
                      have H' := Aside0.mk H
                      clear H
                      go_wp2
                      go_meet
                      case rel => exact ⟨_, (false), (by first | rfl | (simp; done) | (simp [*]; done)), H', ⟨by first | omega | exact Nat.le_refl _⟩, by repeat (first | exact Drawn0.refl _ | apply Drawn0.step)⟩
                · rw [if_neg c38] at H
                  have c38b0 : decide (913 ≤ a0) = false := decide_eq_false c38
                  clear c38
                  by_cases c43 : a0 ≥ 1040
                  · rw [if_pos c43] at H
                    have c43b0 : decide (1040 ≤ a0) = true := decide_eq_true c43
                    clear c43
                    have H' := Aside0.mk H
                    clear H
                    go_wp2
                    go_meet
                    case rel => exact ⟨_, (decide (a0 ≤ 1103)), (by first | rfl | (simp; done) | (simp [*]; done)), H', ⟨by first | omega | exact Nat.le_refl _⟩, by repeat (first | exact Drawn0.refl _ | apply Drawn0.step)⟩
                  · rw [if_neg c43] at H
                    have c43b0 : decide (1040 ≤ a0) = false := decide_eq_false c43
                    clear c43
                    have H' := Aside0.mk H
                    clear H
                    go_wp2
                    go_meet
                    case rel => exact ⟨_, (false), (by first | rfl | (simp; done) | (simp [*]; done)), H', ⟨by first | omega | exact Nat.le_refl _⟩, by repeat (first | exact Drawn0.refl _ | apply Drawn0.step)⟩
              · rw [if_neg c37] at H
                have c37b0 : (a0 == 215) = false := beq_eq_false_iff_ne.mpr c37
                have c37b1 : (a0 != 215) = true := bne_iff_ne.mpr c37
                by_cases c44 : a0 = 247
                · rw [if_pos c44] at H
                  have c44b0 : (a0 == 247) = true := beq_iff_eq.mpr c44
                  have c44b1 : (a0 != 247) = false := bne_eq_false_iff_eq.mpr c44
                  clear c44
                  by_cases c45 : a0 ≥ 913
                  · rw [if_pos c45] at H
                    have c45b0 : decide (913 ≤ a0) = true := decide_eq_true c45
                    clear c45
                    by_cases c46 : a0 ≤ 969
                    · rw [if_pos c46] at H
                      have c46b0 : decide (a0 ≤ 969) = true := decide_eq_true c46
                      clear c46
                      by_cases c47 : a0 = 930
                      · rw [if_pos c47] at H
                        have c47b0 : (a0 == 930) = true := beq_iff_eq.mpr c47
                        have c47b1 : (a0 != 930) = false := bne_eq_false_iff_eq.mpr c47
                        clear c47
                        by_cases c48 : a0 ≥ 1040
                        · rw [if_pos c48] at H
                          have c48b0 : decide (1040 ≤ a0) = true := decide_eq_true c48
                          clear c48
                          have H' := Aside0.mk H
                          clear H
                          go_wp2
                          go_meet
                          case rel => exact ⟨_, (decide (a0 ≤ 1103)), (by first | rfl | (simp; done) | (simp [*]; done)), H', ⟨by first | omega | exact Nat.le_refl _⟩, by repeat (first | exact Drawn0.refl _ | apply Drawn0.step)⟩
                        · rw [if_neg c48] at H
                          have c48b0 : decide (1040 ≤ a0) = false := decide_eq_false c48
                          clear c48
                          have H' := Aside0.mk H
                          clear H
                          go_wp2
                          go_meet
                          case rel => exact ⟨_, (false), (by first | rfl | (simp; done) | (simp [*]; done)), H', ⟨by first | omega | exact Nat.le_refl _⟩, by repeat (first | exact Drawn0.refl _ | apply Drawn0.step)⟩
                      · rw [if_neg c47] at H
                        have c47b0 : (a0 == 930) = false := beq_eq_false_iff_ne.mpr c47
                        have c47b1 : (a0 != 930) = true := bne_iff_ne.mpr c47
                        have H' := Aside0.mk H
                        clear H
                        go_wp2
                        go_meet
                        case rel => exact ⟨_, (true), (by first | rfl | (simp; done) | (simp [*]; done)), H', ⟨by first | omega | exact Nat.le_refl _⟩, by repeat (first | exact Drawn0.refl _ | apply Drawn0.step)⟩
                    · rw [if_neg c46] at H
                      have c46b0 : decide (a0 ≤ 969) = false := decide_eq_false c46
                      clear c46
                      by_cases c49 : a0 ≥ 1040
                      · rw [if_pos c49] at H
                        have c49b0 : decide (1040 ≤ a0) = true := decide_eq_true c49
                        clear c49
                        have H' := Aside0.mk H
                        clear H
                        go_wp2
                        go_meet
                        case rel => exact ⟨_, (decide (a0 ≤ 1103)), (by first | rfl | (simp; done) | (simp [*]; done)), H', ⟨by first | omega | exact Nat.le_refl _⟩, by repeat (first | exact Drawn0.refl _ | apply Drawn0.step)⟩
                      · rw [if_neg c49] at H
                        have c49b0 : decide (1040 ≤ a0) = false := decide_eq_false c49
                        clear c49
                        have H' := Aside0.mk H
                        clear H
                        go_wp2
                        go_meet
                        case rel => exact ⟨_, (false), (by first | rfl | (simp; done) | (simp [*]; done)), H', ⟨by first | omega | exact Nat.le_refl _⟩, by repeat (first | exact Drawn0.refl _ | apply Drawn0.step)⟩
                  · rw [if_neg c45] at H
                    have c45b0 : decide (913 ≤ a0) = false := decide_eq_false c45
                    clear c45
                    by_cases c50 : a0 ≥ 1040
                    · rw [if_pos c50] at H
                      have c50b0 : decide (1040 ≤ a0) = true := decide_eq_true c50
                      clear c50
                      have H' := Aside0.mk H
                      clear H
                      go_wp2
                      go_meet
                      case rel => exact ⟨_, (decide (a0 ≤ 1103)), (by first | rfl | (simp; done) | (simp [*]; done)), H', ⟨by first | omega | exact Nat.le_refl _⟩, by repeat (first | exact Drawn0.refl _ | apply Drawn0.step)⟩
                    · rw [if_neg c50] at H
                      have c50b0 : decide (1040 ≤ a0) = false := decide_eq_false c50
                      clear c50
                      have H' := Aside0.mk H
                      clear H
                      go_wp2
                      go_meet
                      case rel => exact ⟨_, (false), (by first | rfl | (simp; done) | (simp [*]; done)), H', ⟨by first | omega | exact Nat.le_refl _⟩, by repeat (first | exact Drawn0.refl _ | apply Drawn0.step)⟩
                · rw [if_neg c44] at H
                  have c44b0 : (a0 == 247) = false := beq_eq_false_iff_ne.mpr c44
                  have c44b1 : (a0 != 247) = true := bne_iff_ne.mpr c44
                  have H' := Aside0.mk H
                  clear H
                  go_wp2
                  go_meet
                  case rel => exact ⟨_, (true), (by first | rfl | (simp; done) | (simp [*]; done)), H', ⟨by first | omega | exact Nat.le_refl _⟩, by repeat (first | exact Drawn0.refl _ | apply Drawn0.step)⟩
            · rw [if_neg c36] at H
              have c36b0 : decide (a0 ≤ 591) = false := decide_eq_false c36
              clear c36
              by_cases c51 : a0 ≥ 913
              · rw [if_pos c51] at H
                have c51b0 : decide (913 ≤ a0) = true := decide_eq_true c51
                clear c51
                by_cases c52 : a0 ≤ 969
                · rw [if_pos c52] at H
                  have c52b0 : decide (a0 ≤ 969) = true := decide_eq_true c52
                  clear c52
                  by_cases c53 : a0 = 930
                  · rw [if_pos c53] at H
                    have c53b0 : (a0 == 930) = true := beq_iff_eq.mpr c53
                    have c53b1 : (a0 != 930) = false := bne_eq_false_iff_eq.mpr c53
                    clear c53
                    by_cases c54 : a0 ≥ 1040
                    · rw [if_pos c54] at H
                      have c54b0 : decide (1040 ≤ a0) = true := decide_eq_true c54
                      clear c54
                      have H' := Aside0.mk H
                      clear H
                      go_wp2
                      go_meet
                      case rel => exact ⟨_, (decide (a0 ≤ 1103)), (by first | rfl | (simp; done) | (simp [*]; done)), H', ⟨by first | omega | exact Nat.le_refl _⟩, by repeat (first | exact Drawn0.refl _ | apply Drawn0.step)⟩
                    · rw [if_neg c54] at H
                      have c54b0 : decide (1040 ≤ a0) = false := decide_eq_false c54
                      clear c54
                      have H' := Aside0.mk H
                      clear H
                      go_wp2
                      go_meet
                      case rel => exact ⟨_, (false), (by first | rfl | (simp; done) | (simp [*]; done)), H', ⟨by first | omega | exact Nat.le_refl _⟩, by repeat (first | exact Drawn0.refl _ | apply Drawn0.step)⟩
                  · rw [if_neg c53] at H
                    have c53b0 : (a0 == 930) = false := beq_eq_false_iff_ne.mpr c53
                    have c53b1 : (a0 != 930) = true := bne_iff_ne.mpr c53
                    have H' := Aside0.mk H
                    clear H
                    go_wp2
                    go_meet
                    case rel => exact ⟨_, (true), (by first | rfl | (simp; done) | (simp [*]; done)), H', ⟨by first | omega | exact Nat.le_refl _⟩, by repeat (first | exact Drawn0.refl _ | apply Drawn0.step)⟩
                · rw [if_neg c52] at H
                  have c52b0 : decide (a0 ≤ 969) = false := decide_eq_false c52
                  clear c52
                  by_cases c55 : a0 ≥ 1040
                  · rw [if_pos c55] at H
                    have c55b0 : decide (1040 ≤ a0) = true := decide_eq_true c55
                    clear c55
                    have H' := Aside0.mk H
                    clear H
                    go_wp2
                    go_meet
                    case rel => exact ⟨_, (decide (a0 ≤ 1103)), (by first | rfl | (simp; done) | (simp [*]; done)), H', ⟨by first | omega | exact Nat.le_refl _⟩, by repeat (first | exact Drawn0.refl _ | apply Drawn0.step)⟩
                  · rw [if_neg c55] at H
                    have c55b0 : decide (1040 ≤ a0) = false := decide_eq_false c55
                    clear c55
                    have H' := Aside0.mk H
                    clear H
                    go_wp2
                    go_meet
                    case rel => exact ⟨_, (false), (by first | rfl | (simp; done) | (simp [*]; done)), H', ⟨by first | omega | exact Nat.le_refl _⟩, by repeat (first | exact Drawn0.refl _ | apply Drawn0.step)⟩
              · rw [if_neg c51] at H
                have c51b0 : decide (913 ≤ a0) = false := decide_eq_false c51
                clear c51
                by_cases c56 : a0 ≥ 1040
                · rw [if_pos c56] at H
                  have c56b0 : decide (1040 ≤ a0) = true := decide_eq_true c56
                  clear c56
                  have H' := Aside0.mk H
                  clear H
                  go_wp2
                  go_meet
                  case rel => exact ⟨_, (decide (a0 ≤ 1103)), (by first | rfl | (simp; done) | (simp [*]; done)), H', ⟨by first | omega | exact Nat.le_refl _⟩, by repeat (first | exact Drawn0.refl _ | apply Drawn0.step)⟩
                · rw [if_neg c56] at H
                  have c56b0 : decide (1040 ≤ a0) = false := decide_eq_false c56
                  clear c56
                  have H' := Aside0.mk H
                  clear H
                  go_wp2
                  go_meet
                  case rel => exact ⟨_, (false), (by first | rfl | (simp; done) | (simp [*]; done)), H', ⟨by first | omega | exact Nat.le_refl _⟩, by repeat (first | exact Drawn0.refl _ | apply Drawn0.step)⟩
          · rw [if_neg c35] at H
            have c35b0 : decide (192 ≤ a0) = false := decide_eq_false c35
            clear c35
            by_cases c57 : a0 ≥ 913
            · rw [if_pos c57] at H
              have c57b0 : decide (913 ≤ a0) = true := decide_eq_true c57
              clear c57
              by_cases c58 : a0 ≤ 969
              · rw [if_pos c58] at H
                have c58b0 : decide (a0 ≤ 969) = true := decide_eq_true c58
                clear c58
                by_cases c59 : a0 = 930
                · rw [if_pos c59] at H
                  have c59b0 : (a0 == 930) = true := beq_iff_eq.mpr c59
                  have c59b1 : (a0 != 930) = false := bne_eq_false_iff_eq.mpr c59
                  clear c59
                  by_cases c60 : a0 ≥ 1040
                  · rw [if_pos c60] at H
                    have c60b0 : decide (1040 ≤ a0) = true := decide_eq_true c60
                    clear c60
                    have H' := Aside0.mk H
                    clear H
                    go_wp2
                    go_meet
                    case rel => exact ⟨_, (decide (a0 ≤ 1103)), (by first | rfl | (simp; done) | (simp [*]; done)), H', ⟨by first | omega | exact Nat.le_refl _⟩, by repeat (first | exact Drawn0.refl _ | apply Drawn0.step)⟩
                  · rw [if_neg c60] at H
                    have c60b0 : decide (1040 ≤ a0) = false := decide_eq_false c60
                    clear c60
                    have H' := Aside0.mk H
                    clear H
                    go_wp2
                    go_meet
                    case rel => exact ⟨_, (false), (by first | rfl | (simp; done) | (simp [*]; done)), H', ⟨by first | omega | exact Nat.le_refl _⟩, by repeat (first | exact Drawn0.refl _ | apply Drawn0.step)⟩
                · rw [if_neg c59] at H
                  have c59b0 : (a0 == 930) = false := beq_eq_false_iff_ne.mpr c59
                  have c59b1 : (a0 != 930) = true := bne_iff_ne.mpr c59
                  have H' := Aside0.mk H
                  clear H
                  go_wp2
                  go_meet
                  case rel => exact ⟨_, (true), (by first | rfl | (simp; done) | (simp [*]; done)), H', ⟨by first | omega | exact Nat.le_refl _⟩, by repeat (first | exact Drawn0.refl _ | apply Drawn0.step)⟩
              · rw [if_neg c58] at H
                have c58b0 : decide (a0 ≤ 969) = false := decide_eq_false c58
                clear c58
                by_cases c61 : a0 ≥ 1040
                · rw [if_pos c61] at H
                  have c61b0 : decide (1040 ≤ a0) = true := decide_eq_true c61
                  clear c61
                  have H' := Aside0.mk H
                  clear H
                  go_wp2
                  go_meet
                  case rel => exact ⟨_, (decide (a0 ≤ 1103)), (by first | rfl | (simp; done) | (simp [*]; done)), H', ⟨by first | omega | exact Nat.le_refl _⟩, by repeat (first | exact Drawn0.refl _ | apply Drawn0.step)⟩
                · rw [if_neg c61] at H
                  have c61b0 : decide (1040 ≤ a0) = false := decide_eq_false c61
                  clear c61
                  have H' := Aside0.mk H
                  clear H
                  go_wp2
                  go_meet
                  case rel => exact ⟨_, (false), (by first | rfl | (simp; done) | (simp [*]; done)), H', ⟨by first | omega | exact Nat.le_refl _⟩, by repeat (first | exact Drawn0.refl _ | apply Drawn0.step)⟩
            · rw [if_neg c57] at H
              have c57b0 : decide (913 ≤ a0) = false := decide_eq_false c57
              clear c57
              by_cases c62 : a0 ≥ 1040
              · rw [if_pos c62] at H
                have c62b0 : decide (1040 ≤ a0) = true := decide_eq_true c62
                clear c62
                have H' := Aside0.mk H
                clear H
                go_wp2
                go_meet
                case rel => exact ⟨_, (decide (a0 ≤ 1103)), (by first | rfl | (simp; done) | (simp [*]; done)), H', ⟨by first | omega | exact Nat.le_refl _⟩, by repeat (first | exact Drawn0.refl _ | apply Drawn0.step)⟩
              · rw [if_neg c62] at H
                have c62b0 : decide (1040 ≤ a0) = false := decide_eq_false c62
                clear c62
                have H' := Aside0.mk H
                clear H
                go_wp2
                go_meet
                case rel => exact ⟨_, (false), (by first | rfl | (simp; done) | (simp [*]; done)), H', ⟨by first | omega | exact Nat.le_refl _⟩, by repeat (first | exact Drawn0.refl _ | apply Drawn0.step)⟩
    · rw [if_neg c3] at H
      have c3b0 : decide (97 ≤ a0) = false := decide_eq_false c3
      clear c3
      (first | rw [c3b0] | (simp only [i64_w, i32_w]; rw [c3b0]) | skip)
      by_cases c63 : a0 ≥ 65
      · rw [if_pos c63] at H
        have c63b0 : decide (65 ≤ a0) = true := decide_eq_true c63
        clear c63
        by_cases c64 : a0 ≤ 90
        · rw [if_pos c64] at H
          have c64b0 : decide (a0 ≤ 90) = true := decide_eq_true c64
          clear c64
          have H' := Aside0.mk H
          clear H
          go_wp2
          go_meet
          case rel => exact ⟨_, (true), (by first | rfl | (simp; done) | (simp [*]; done)), H', ⟨by first | omega | exact Nat.le_refl _⟩, by repeat (first | exact Drawn0.refl _ | apply Drawn0.step)⟩
        · rw [if_neg c64] at H
          have c64b0 : decide (a0 ≤ 90) = false := decide_eq_false c64
          clear c64
          by_cases c65 : a0 ≥ 192
          · rw [if_pos c65] at H
            have c65b0 : decide (192 ≤ a0) = true := decide_eq_true c65
            clear c65
            by_cases c66 : a0 ≤ 591
            · rw [if_pos c66] at H
              have c66b0 : decide (a0 ≤ 591) = true := decide_eq_true c66
              clear c66
              by_cases c67 : a0 = 215
              · rw [if_pos c67] at H
                have c67b0 : (a0 == 215) = true := beq_iff_eq.mpr c67
                have c67b1 : (a0 != 215) = false := bne_eq_false_iff_eq.mpr c67
                clear c67
                by_cases c68 : a0 ≥ 913
                · rw [if_pos c68] at H
                  have c68b0 : decide (913 ≤ a0) = true := decide_eq_true c68
                  clear c68
                  by_cases c69 : a0 ≤ 969
                  · rw [if_pos c69] at H
                    have c69b0 : decide (a0 ≤ 969) = true := decide_eq_true c69
                    clear c69
                    by_cases c70 : a0 = 930
                    · rw [if_pos c70] at H
                      have c70b0 : (a0 == 930) = true := beq_iff_eq.mpr c70
                      have c70b1 : (a0 != 930) = false := bne_eq_false_iff_eq.mpr c70
                      clear c70
                      by_cases c71 : a0 ≥ 1040
                      · rw [if_pos c71] at H
                        have c71b0 : decide (1040 ≤ a0) = true := decide_eq_true c71
                        clear c71
                        have H' := Aside0.mk H
                        clear H
                        go_wp2
                        go_meet
                        case rel => exact ⟨_, (decide (a0 ≤ 1103)), (by first | rfl | (simp; done) | (simp [*]; done)), H', ⟨by first | omega | exact Nat.le_refl _⟩, by repeat (first | exact Drawn0.refl _ | apply Drawn0.step)⟩
                      · rw [if_neg c71] at H
                        have c71b0 : decide (1040 ≤ a0) = false := decide_eq_false c71
                        clear c71
                        have H' := Aside0.mk H
                        clear H
                        go_wp2
                        go_meet
                        case rel => exact ⟨_, (false), (by first | rfl | (simp; done) | (simp [*]; done)), H', ⟨by first | omega | exact Nat.le_refl _⟩, by repeat (first | exact Drawn0.refl _ | apply Drawn0.step)⟩
                    · rw [if_neg c70] at H
                      have c70b0 : (a0 == 930) = false := beq_eq_false_iff_ne.mpr c70
                      have c70b1 : (a0 != 930) = true := bne_iff_ne.mpr c70
                      have H' := Aside0.mk H
                      clear H
                      go_wp2
                      go_meet
                      case rel => exact ⟨_, (true), (by first | rfl | (simp; done) | (simp [*]; done)), H', ⟨by first | omega | exact Nat.le_refl _⟩, by repeat (first | exact Drawn0.refl _ | apply Drawn0.step)⟩
                  · rw [if_neg c69] at H
                    have c69b0 : decide (a0 ≤ 969) = false := decide_eq_false c69
                    clear c69
                    by_cases c72 : a0 ≥ 1040
                    · rw [if_pos c72] at H
                      have c72b0 : decide (1040 ≤ a0) = true := decide_eq_true c72
                      clear c72
                      have H' := Aside0.mk H
                      clear H
                      go_wp2
                      go_meet
                      case rel => exact ⟨_, (decide (a0 ≤ 1103)), (by first | rfl | (simp; done) | (simp [*]; done)), H', ⟨by first | omega | exact Nat.le_refl _⟩, by repeat (first | exact Drawn0.refl _ | apply Drawn0.step)⟩
                    · rw [if_neg c72] at H
                      have c72b0 : decide (1040 ≤ a0) = false := decide_eq_false c72
                      clear c72
                      have H' := Aside0.mk H
                      clear H
                      go_wp2
                      go_meet
                      case rel => exact ⟨_, (false), (by first | rfl | (simp; done) | (simp [*]; done)), H', ⟨by first | omega | exact Nat.le_refl _⟩, by repeat (first | exact Drawn0.refl _ | apply Drawn0.step)⟩
                · rw [if_neg c68] at H
                  have c68b0 : decide (913 ≤ a0) = false := decide_eq_false c68
                  clear c68
                  by_cases c73 : a0 ≥ 1040
                  · rw [if_pos c73] at H
                    have c73b0 : decide (1040 ≤ a0) = true := decide_eq_true c73
                    clear c73
                    have H' := Aside0.mk H
                    clear H
                    go_wp2
                    go_meet
                    case rel => exact ⟨_, (decide (a0 ≤ 1103)), (by first | rfl | (simp; done) | (simp [*]; done)), H', ⟨by first | omega | exact Nat.le_refl _⟩, by repeat (first | exact Drawn0.refl _ | apply Drawn0.step)⟩
                  · rw [if_neg c73] at H
                    have c73b0 : decide (1040 ≤ a0) = false := decide_eq_false c73
                    clear c73
                    have H' := Aside0.mk H
                    clear H
                    go_wp2
                    go_meet
                    case rel => exact ⟨_, (false), (by first | rfl | (simp; done) | (simp [*]; done)), H', ⟨by first | omega | exact Nat.le_refl _⟩, by repeat (first | exact Drawn0.refl _ | apply Drawn0.step)⟩
              · rw [if_neg c67] at H
                have c67b0 : (a0 == 215) = false := beq_eq_false_iff_ne.mpr c67
                have c67b1 : (a0 != 215) = true := bne_iff_ne.mpr c67
                by_cases c74 : a0 = 247
                · rw [if_pos c74] at H
                  have c74b0 : (a0 == 247) = true := beq_iff_eq.mpr c74
                  have c74b1 : (a0 != 247) = false := bne_eq_false_iff_eq.mpr c74
                  clear c74
                  by_cases c75 : a0 ≥ 913
                  · rw [if_pos c75] at H
                    have c75b0 : decide (913 ≤ a0) = true := decide_eq_true c75
                    clear c75
                    by_cases c76 : a0 ≤ 969
                    · rw [if_pos c76] at H
                      have c76b0 : decide (a0 ≤ 969) = true := decide_eq_true c76
                      clear c76
                      by_cases c77 : a0 = 930
                      · rw [if_pos c77] at H
                        have c77b0 : (a0 == 930) = true := beq_iff_eq.mpr c77
                        have c77b1 : (a0 != 930) = false := bne_eq_false_iff_eq.mpr c77
                        clear c77
                        by_cases c78 : a0 ≥ 1040
                        · rw [if_pos c78] at H
                          have c78b0 : decide (1040 ≤ a0) = true := decide_eq_true c78
                          clear c78
                          have H' := Aside0.mk H
                          clear H
                          go_wp2
                          go_meet
                          case rel => exact ⟨_, (decide (a0 ≤ 1103)), (by first | rfl | (simp; done) | (simp [*]; done)), H', ⟨by first | omega | exact Nat.le_refl _⟩, by repeat (first | exact Drawn0.refl _ | apply Drawn0.step)⟩
                        · rw [if_neg c78] at H
                          have c78b0 : decide (1040 ≤ a0) = false := decide_eq_false c78
                          clear c78
                          have H' := Aside0.mk H
                          clear H
                          go_wp2
                          go_meet
                          case rel => exact ⟨_, (false), (by first | rfl | (simp; done) | (simp [*]; done)), H', ⟨by first | omega | exact Nat.le_refl _⟩, by repeat (first | exact Drawn0.refl _ | apply Drawn0.step)⟩
                      · rw [if_neg c77] at H
                        have c77b0 : (a0 == 930) = false := beq_eq_false_iff_ne.mpr c77
                        have c77b1 : (a0 != 930) = true := bne_iff_ne.mpr c77
                        have H' := Aside0.mk H
                        clear H
                        go_wp2
                        go_meet
                        case rel => exact ⟨_, (true), (by first | rfl | (simp; done) | (simp [*]; done)), H', ⟨by first | omega | exact Nat.le_refl _⟩, by repeat (first | exact Drawn0.refl _ | apply Drawn0.step)⟩
                    · rw [if_neg c76] at H
                      have c76b0 : decide (a0 ≤ 969) = false := decide_eq_false c76
                      clear c76
                      by_cases c79 : a0 ≥ 1040
                      · rw [if_pos c79] at H
                        have c79b0 : decide (1040 ≤ a0) = true := decide_eq_true c79
                        clear c79
                        have H' := Aside0.mk H
                        clear H
                        go_wp2
                        go_meet
                        case rel => exact ⟨_, (decide (a0 ≤ 1103)), (by first | rfl | (simp; done) | (simp [*]; done)), H', ⟨by first | omega | exact Nat.le_refl _⟩, by repeat (first | exact Drawn0.refl _ | apply Drawn0.step)⟩
                      · rw [if_neg c79] at H
                        have c79b0 : decide (1040 ≤ a0) = false := decide_eq_false c79
                        clear c79
                        have H' := Aside0.mk H
                        clear H
                        go_wp2
                        go_meet
                        case rel => exact ⟨_, (false), (by first | rfl | (simp; done) | (simp [*]; done)), H', ⟨by first | omega | exact Nat.le_refl _⟩, by repeat (first | exact Drawn0.refl _ | apply Drawn0.step)⟩
                  · rw [if_neg c75] at H
                    have c75b0 : decide (913 ≤ a0) = false := decide_eq_false c75
                    clear c75
                    by_cases c80 : a0 ≥ 1040
                    · rw [if_pos c80] at H
                      have c80b0 : decide (1040 ≤ a0) = true := decide_eq_true c80
                      clear c80
                      have H' := Aside0.mk H
                      clear H
                      go_wp2
                      go_meet
                      case rel => exact ⟨_, (decide (a0 ≤ 1103)), (by first | rfl | (simp; done) | (simp [*]; done)), H', ⟨by first | omega | exact Nat.le_refl _⟩, by repeat (first | exact Drawn0.refl _ | apply Drawn0.step)⟩
                    · rw [if_neg c80] at H
                      have c80b0 : decide (1040 ≤ a0) = false := decide_eq_false c80
                      clear c80
                      have H' := Aside0.mk H
                      clear H
                      go_wp2
                      go_meet
                      case rel => exact ⟨_, (false), (by first | rfl | (simp; done) | (simp [*]; done)), H', ⟨by first | omega | exact Nat.le_refl _⟩, by repeat (first | exact Drawn0.refl _ | apply Drawn0.step)⟩
                · rw [if_neg c74] at H
                  have c74b0 : (a0 == 247) = false := beq_eq_false_iff_ne.mpr c74
                  have c74b1 : (a0 != 247) = true := bne_iff_ne.mpr c74
                  have H' := Aside0.mk H
                  clear H
                  go_wp2
                  go_meet
                  case rel => exact ⟨_, (true), (by first | rfl | (simp; done) | (simp [*]; done)), H', ⟨by first | omega | exact Nat.le_refl _⟩, by repeat (first | exact Drawn0.refl _ | apply Drawn0.step)⟩
            · rw [if_neg c66] at H
              have c66b0 : decide (a0 ≤ 591) = false := decide_eq_false c66
              clear c66
              by_cases c81 : a0 ≥ 913
              · rw [if_pos c81] at H
                have c81b0 : decide (913 ≤ a0) = true := decide_eq_true c81
                clear c81
                by_cases c82 : a0 ≤ 969
                · rw [if_pos c82] at H
                  have c82b0 : decide (a0 ≤ 969) = true := decide_eq_true c82
                  clear c82
                  by_cases c83 : a0 = 930
                  · rw [if_pos c83] at H
                    have c83b0 : (a0 == 930) = true := beq_iff_eq.mpr c83
                    have c83b1 : (a0 != 930) = false := bne_eq_false_iff_eq.mpr c83
                    clear c83
                    by_cases c84 : a0 ≥ 1040
                    · rw [if_pos c84] at H
                      have c84b0 : decide (1040 ≤ a0) = true := decide_eq_true c84
                      clear c84
                      have H' := Aside0.mk H
                      clear H
                      go_wp2
                      go_meet
                      case rel => exact ⟨_, (decide (a0 ≤ 1103)), (by first | rfl | (simp; done) | (simp [*]; done)), H', ⟨by first | omega | exact Nat.le_refl _⟩, by repeat (first | exact Drawn0.refl _ | apply Drawn0.step)⟩
                    · rw [if_neg c84] at H
                      have c84b0 : decide (1040 ≤ a0) = false := decide_eq_false c84
                      clear c84
                      have H' := Aside0.mk H
                      clear H
                      go_wp2
                      go_meet
                      case rel => exact ⟨_, (false), (by first | rfl | (simp; done) | (simp [*]; done)), H', ⟨by first | omega | exact Nat.le_refl _⟩, by repeat (first | exact Drawn0.refl _ | apply Drawn0.step)⟩
                  · rw [if_neg c83] at H
                    have c83b0 : (a0 == 930) = false := beq_eq_false_iff_ne.mpr c83
                    have c83b1 : (a0 != 930) = true := bne_iff_ne.mpr c83
                    have H' := Aside0.mk H
                    clear H
                    go_wp2
                    go_meet
                    case rel => exact ⟨_, (true), (by first | rfl | (simp; done) | (simp [*]; done)), H', ⟨by first | omega | exact Nat.le_refl _⟩, by repeat (first | exact Drawn0.refl _ | apply Drawn0.step)⟩
                · rw [if_neg c82] at H
                  have c82b0 : decide (a0 ≤ 969) = false := decide_eq_false c82
                  clear c82
                  by_cases c85 : a0 ≥ 1040
                  · rw [if_pos c85] at H
                    have c85b0 : decide (1040 ≤ a0) = true := decide_eq_true c85
                    clear c85
                    have H' := Aside0.mk H
                    clear H
                    go_wp2
                    go_meet
                    case rel => exact ⟨_, (decide (a0 ≤ 1103)), (by first | rfl | (simp; done) | (simp [*]; done)), H', ⟨by first | omega | exact Nat.le_refl _⟩, by repeat (first | exact Drawn0.refl _ | apply Drawn0.step)⟩
                  · rw [if_neg c85] at H
                    have c85b0 : decide (1040 ≤ a0) = false := decide_eq_false c85
                    clear c85
                    have H' := Aside0.mk H
                    clear H
                    go_wp2
                    go_meet
                    case rel => exact ⟨_, (false), (by first | rfl | (simp; done) | (simp [*]; done)), H', ⟨by first | omega | exact Nat.le_refl _⟩, by repeat (first | exact Drawn0.refl _ | apply Drawn0.step)⟩
              · rw [if_neg c81] at H
                have c81b0 : decide (913 ≤ a0) = false := decide_eq_false c81
                clear c81
                by_cases c86 : a0 ≥ 1040
                · rw [if_pos c86] at H
                  have c86b0 : decide (1040 ≤ a0) = true := decide_eq_true c86
                  clear c86
                  have H' := Aside0.mk H
                  clear H
                  go_wp2
                  go_meet
                  case rel => exact ⟨_, (decide (a0 ≤ 1103)), (by first | rfl | (simp; done) | (simp [*]; done)), H', ⟨by first | omega | exact Nat.le_refl _⟩, by repeat (first | exact Drawn0.refl _ | apply Drawn0.step)⟩
                · rw [if_neg c86] at H
                  have c86b0 : decide (1040 ≤ a0) = false := decide_eq_false c86
                  clear c86
                  have H' := Aside0.mk H
                  clear H
                  go_wp2
                  go_meet
                  case rel => exact ⟨_, (false), (by first | rfl | (simp; done) | (simp [*]; done)), H', ⟨by first | omega | exact Nat.le_refl _⟩, by repeat (first | exact Drawn0.refl _ | apply Drawn0.step)⟩
          · rw [if_neg c65] at H
            have c65b0 : decide (192 ≤ a0) = false := decide_eq_false c65
            clear c65
            by_cases c87 : a0 ≥ 913
            · rw [if_pos c87] at H
              have c87b0 : decide (913 ≤ a0) = true := decide_eq_true c87
              clear c87
              by_cases c88 : a0 ≤ 969
              · rw [if_pos c88] at H
                have c88b0 : decide (a0 ≤ 969) = true := decide_eq_true c88
                clear c88
                by_cases c89 : a0 = 930
                · rw [if_pos c89] at H
                  have c89b0 : (a0 == 930) = true := beq_iff_eq.mpr c89
                  have c89b1 : (a0 != 930) = false := bne_eq_false_iff_eq.mpr c89
                  clear c89
                  by_cases c90 : a0 ≥ 1040
                  · rw [if_pos c90] at H
                    have c90b0 : decide (1040 ≤ a0) = true := decide_eq_true c90
                    clear c90
                    have H' := Aside0.mk H
                    clear H
                    go_wp2
                    go_meet
                    case rel => exact ⟨_, (decide (a0 ≤ 1103)), (by first | rfl | (simp; done) | (simp [*]; done)), H', ⟨by first | omega | exact Nat.le_refl _⟩, by repeat (first | exact Drawn0.refl _ | apply Drawn0.step)⟩
                  · rw [if_neg c90] at H
                    have c90b0 : decide (1040 ≤ a0) = false := decide_eq_false c90
                    clear c90
                    have H' := Aside0.mk H
                    clear H
                    go_wp2
                    go_meet
                    case rel => exact ⟨_, (false), (by first | rfl | (simp; done) | (simp [*]; done)), H', ⟨by first | omega | exact Nat.le_refl _⟩, by repeat (first | exact Drawn0.refl _ | apply Drawn0.step)⟩
                · rw [if_neg c89] at H
                  have c89b0 : (a0 == 930) = false := beq_eq_false_iff_ne.mpr c89
                  have c89b1 : (a0 != 930) = true := bne_iff_ne.mpr c89
                  have H' := Aside0.mk H
                  clear H
                  go_wp2
                  go_meet
                  case rel => exact ⟨_, (true), (by first | rfl | (simp; done) | (simp [*]; done)), H', ⟨by first | omega | exact Nat.le_refl _⟩, by repeat (first | exact Drawn0.refl _ | apply Drawn0.step)⟩
              · rw [if_neg c88] at H
                have c88b0 : decide (a0 ≤ 969) = false := decide_eq_false c88
                clear c88
                by_cases c91 : a0 ≥ 1040
                · rw [if_pos c91] at H
                  have c91b0 : decide (1040 ≤ a0) = true := decide_eq_true c91
                  clear c91
                  have H' := Aside0.mk H
                  clear H
                  go_wp2
                  go_meet
                  case rel => exact ⟨_, (decide (a0 ≤ 1103)), (by first | rfl | (simp; done) | (simp [*]; done)), H', ⟨by first | omega | exact Nat.le_refl _⟩, by repeat (first | exact Drawn0.refl _ | apply Drawn0.step)⟩
                · rw [if_neg c91] at H
                  have c91b0 : decide (1040 ≤ a0) = false := decide_eq_false c91
                  clear c91
                  have H' := Aside0.mk H
                  clear H
                  go_wp2
                  go_meet
                  case rel => exact ⟨_, (false), (by first | rfl | (simp; done) | (simp [*]; done)), H', ⟨by first | omega | exact Nat.le_refl _⟩, by repeat (first | exact Drawn0.refl _ | apply Drawn0.step)⟩
            · rw [if_neg c87] at H
              have c87b0 : decide (913 ≤ a0) = false := decide_eq_false c87
              clear c87
              by_cases c92 : a0 ≥ 1040
              · rw [if_pos c92] at H
                have c92b0 : decide (1040 ≤ a0) = true := decide_eq_true c92
                clear c92
                have H' := Aside0.mk H
                clear H
                go_wp2
                go_meet
                case rel => exact ⟨_, (decide (a0 ≤ 1103)), (by first | rfl | (simp; done) | (simp [*]; done)), H', ⟨by first | omega | exact Nat.le_refl _⟩, by repeat (first | exact Drawn0.refl _ | apply Drawn0.step)⟩
              · rw [if_neg c92] at H
                have c92b0 : decide (1040 ≤ a0) = false := decide_eq_false c92
                clear c92
                have H' := Aside0.mk H
                clear H
                go_wp2
                go_meet
                case rel => exact ⟨_, (false), (by first | rfl | (simp; done) | (simp [*]; done)), H', ⟨by first | omega | exact Nat.le_refl _⟩, by repeat (first | exact Drawn0.refl _ | apply Drawn0.step)⟩
      · rw [if_neg c63] at H
        have c63b0 : decide (65 ≤ a0) = false := decide_eq_false c63
        clear c63
        by_cases c93 : a0 ≥ 192
        · rw [if_pos c93] at H
          have c93b0 : decide (192 ≤ a0) = true := decide_eq_true c93
          clear c93
          by_cases c94 : a0 ≤ 591
          · rw [if_pos c94] at H
            have c94b0 : decide (a0 ≤ 591) = true := decide_eq_true c94
            clear c94
            by_cases c95 : a0 = 215
            · rw [if_pos c95] at H
              have c95b0 : (a0 == 215) = true := beq_iff_eq.mpr c95
              have c95b1 : (a0 != 215) = false := bne_eq_false_iff_eq.mpr c95
              clear c95
              by_cases c96 : a0 ≥ 913
              · rw [if_pos c96] at H
                have c96b0 : decide (913 ≤ a0) = true := decide_eq_true c96
                clear c96
                by_cases c97 : a0 ≤ 969
                · rw [if_pos c97] at H
                  have c97b0 : decide (a0 ≤ 969) = true := decide_eq_true c97
                  clear c97
                  by_cases c98 : a0 = 930
                  · rw [if_pos c98] at H
                    have c98b0 : (a0 == 930) = true := beq_iff_eq.mpr c98
                    have c98b1 : (a0 != 930) = false := bne_eq_false_iff_eq.mpr c98
                    clear c98
                    by_cases c99 : a0 ≥ 1040
                    · rw [if_pos c99] at H
                      have c99b0 : decide (1040 ≤ a0) = true := decide_eq_true c99
                      clear c99
                      have H' := Aside0.mk H
                      clear H
                      go_wp2
                      go_meet
                      case rel => exact ⟨_, (decide (a0 ≤ 1103)), (by first | rfl | (simp; done) | (simp [*]; done)), H', ⟨by first | omega | exact Nat.le_refl _⟩, by repeat (first | exact Drawn0.refl _ | apply Drawn0.step)⟩
                    · rw [if_neg c99] at H
                      have c99b0 : decide (1040 ≤ a0) = false := decide_eq_false c99
                      clear c99
                      have H' := Aside0.mk H
                      clear H
                      go_wp2
                      go_meet
                      case rel => exact ⟨_, (false), (by first | rfl | (simp; done) | (simp [*]; done)), H', ⟨by first | omega | exact Nat.le_refl _⟩, by repeat (first | exact Drawn0.refl _ | apply Drawn0.step)⟩
                  · rw [if_neg c98] at H
                    have c98b0 : (a0 == 930) = false := beq_eq_false_iff_ne.mpr c98
                    have c98b1 : (a0 != 930) = true := bne_iff_ne.mpr c98
                    have H' := Aside0.mk H
                    clear H
                    go_wp2
                    go_meet
                    case rel => exact ⟨_, (true), (by first | rfl | (simp; done) | (simp [*]; done)), H', ⟨by first | omega | exact Nat.le_refl _⟩, by repeat (first | exact Drawn0.refl _ | apply Drawn0.step)⟩
                · rw [if_neg c97] at H
                  have c97b0 : decide (a0 ≤ 969) = false := decide_eq_false c97
                  clear c97
                  by_cases c100 : a0 ≥ 1040
                  · rw [if_pos c100] at H
                    have c100b0 : decide (1040 ≤ a0) = true := decide_eq_true c100
                    clear c100
                    have H' := Aside0.mk H
                    clear H
                    go_wp2
                    go_meet
                    case rel => exact ⟨_, (decide (a0 ≤ 1103)), (by first | rfl | (simp; done) | (simp [*]; done)), H', ⟨by first | omega | exact Nat.le_refl _⟩, by repeat (first | exact Drawn0.refl _ | apply Drawn0.step)⟩
                  · rw [if_neg c100] at H
                    have c100b0 : decide (1040 ≤ a0) = false := decide_eq_false c100
                    clear c100
                    have H' := Aside0.mk H
                    clear H
                    go_wp2
                    go_meet
                    case rel => exact ⟨_, (false), (by first | rfl | (simp; done) | (simp [*]; done)), H', ⟨by first | omega | exact Nat.le_refl _⟩, by repeat (first | exact Drawn0.refl _ | apply Drawn0.step)⟩
              · rw [if_neg c96] at H
                have c96b0 : decide (913 ≤ a0) = false := decide_eq_false c96
                clear c96
                by_cases c101 : a0 ≥ 1040
                · rw [if_pos c101] at H
                  have c101b0 : decide (1040 ≤ a0) = true := decide_eq_true c101
                  clear c101
                  have H' := Aside0.mk H
                  clear H
                  go_wp2
                  go_meet
                  case rel => exact ⟨_, (decide (a0 ≤ 1103)), (by first | rfl | (simp; done) | (simp [*]; done)), H', ⟨by first | omega | exact Nat.le_refl _⟩, by repeat (first | exact Drawn0.refl _ | apply Drawn0.step)⟩
                · rw [if_neg c101] at H
                  have c101b0 : decide (1040 ≤ a0) = false := decide_eq_false c101
                  clear c101
                  have H' := Aside0.mk H
                  clear H
                  go_wp2
                  go_meet
                  case rel => exact ⟨_, (false), (by first | rfl | (simp; done) | (simp [*]; done)), H', ⟨by first | omega | exact Nat.le_refl _⟩, by repeat (first | exact Drawn0.refl _ | apply Drawn0.step)⟩
            · rw [if_neg c95] at H
              have c95b0 : (a0 == 215) = false := beq_eq_false_iff_ne.mpr c95
              have c95b1 : (a0 != 215) = true := bne_iff_ne.mpr c95
              by_cases c102 : a0 = 247
              · rw [if_pos c102] at H
                have c102b0 : (a0 == 247) = true := beq_iff_eq.mpr c102
                have c102b1 : (a0 != 247) = false := bne_eq_false_iff_eq.mpr c102
                clear c102
                by_cases c103 : a0 ≥ 913
                · rw [if_pos c103] at H
                  have c103b0 : decide (913 ≤ a0) = true := decide_eq_true c103
                  clear c103
                  by_cases c104 : a0 ≤ 969
                  · rw [if_pos c104] at H
                    have c104b0 : decide (a0 ≤ 969) = true := decide_eq_true c104
                    clear c104
                    by_cases c105 : a0 = 930
                    · rw [if_pos c105] at H
                      have c105b0 : (a0 == 930) = true := beq_iff_eq.mpr c105
                      have c105b1 : (a0 != 930) = false := bne_eq_false_iff_eq.mpr c105
                      clear c105
                      by_cases c106 : a0 ≥ 1040
                      · rw [if_pos c106] at H
                        have c106b0 : decide (1040 ≤ a0) = true := decide_eq_true c106
                        clear c106
                        have H' := Aside0.mk H
                        clear H
                        go_wp2
                        go_meet
                        case rel => exact ⟨_, (decide (a0 ≤ 1103)), (by first | rfl | (simp; done) | (simp [*]; done)), H', ⟨by first | omega | exact Nat.le_refl _⟩, by repeat (first | exact Drawn0.refl _ | apply Drawn0.step)⟩
                      · rw [if_neg c106] at H
                        have c106b0 : decide (1040 ≤ a0) = false := decide_eq_false c106
                        clear c106
                        have H' := Aside0.mk H
                        clear H
                        go_wp2
                        go_meet
                        case rel => exact ⟨_, (false), (by first | rfl | (simp; done) | (simp [*]; done)), H', ⟨by first | omega | exact Nat.le_refl _⟩, by repeat (first | exact Drawn0.refl _ | apply Drawn0.step)⟩
                    · rw [if_neg c105] at H
                      have c105b0 : (a0 == 930) = false := beq_eq_false_iff_ne.mpr c105
                      have c105b1 : (a0 != 930) = true := bne_iff_ne.mpr c105
                      have H' := Aside0.mk H
                      clear H
                      go_wp2
                      go_meet
                      case rel => exact ⟨_, (true), (by first | rfl | (simp; done) | (simp [*]; done)), H', ⟨by first | omega | exact Nat.le_refl _⟩, by repeat (first | exact Drawn0.refl _ | apply Drawn0.step)⟩
                  · rw [if_neg c104] at H
                    have c104b0 : decide (a0 ≤ 969) = false := decide_eq_false c104
                    clear c104
                    by_cases c107 : a0 ≥ 1040
                    · rw [if_pos c107] at H
                      have c107b0 : decide (1040 ≤ a0) = true := decide_eq_true c107
                      clear c107
                      have H' := Aside0.mk H
                      clear H
                      go_wp2
                      go_meet
                      case rel => exact ⟨_, (decide (a0 ≤ 1103)), (by first | rfl | (simp; done) | (simp [*]; done)), H', ⟨by first | omega | exact Nat.le_refl _⟩, by repeat (first | exact Drawn0.refl _ | apply Drawn0.step)⟩
                    · rw [if_neg c107] at H
                      have c107b0 : decide (1040 ≤ a0) = false := decide_eq_false c107
                      clear c107
                      have H' := Aside0.mk H
                      clear H
                      go_wp2
                      go_meet
                      case rel => exact ⟨_, (false), (by first | rfl | (simp; done) | (simp [*]; done)), H', ⟨by first | omega | exact Nat.le_refl _⟩, by repeat (first | exact Drawn0.refl _ | apply Drawn0.step)⟩
                · rw [if_neg c103] at H
                  have c103b0 : decide (913 ≤ a0) = false := decide_eq_false c103
                  clear c103
                  by_cases c108 : a0 ≥ 1040
                  · rw [if_pos c108] at H
                    have c108b0 : decide (1040 ≤ a0) = true := decide_eq_true c108
                    clear c108
                    have H' := Aside0.mk H
                    clear H
                    go_wp2
                    go_meet
                    case rel => exact ⟨_, (decide (a0 ≤ 1103)), (by first | rfl | (simp; done) | (simp [*]; done)), H', ⟨by first | omega | exact Nat.le_refl _⟩, by repeat (first | exact Drawn0.refl _ | apply Drawn0.step)⟩
                  · rw [if_neg c108] at H
                    have c108b0 : decide (1040 ≤ a0) = false := decide_eq_false c108
                    clear c108
                    have H' := Aside0.mk H
                    clear H
                    go_wp2
                    go_meet
                    case rel => exact ⟨_, (false), (by first | rfl | (simp; done) | (simp [*]; done)), H', ⟨by first | omega | exact Nat.le_refl _⟩, by repeat (first | exact Drawn0.refl _ | apply Drawn0.step)⟩
              · rw [if_neg c102] at H
                have c102b0 : (a0 == 247) = false := beq_eq_false_iff_ne.mpr c102
                have c102b1 : (a0 != 247) = true := bne_iff_ne.mpr c102
                have H' := Aside0.mk H
                clear H
                go_wp2
                go_meet
                case rel => exact ⟨_, (true), (by first | rfl | (simp; done) | (simp [*]; done)), H', ⟨by first | omega | exact Nat.le_refl _⟩, by repeat (first | exact Drawn0.refl _ | apply Drawn0.step)⟩
          · rw [if_neg c94] at H
            have c94b0 : decide (a0 ≤ 591) = false := decide_eq_false c94
            clear c94
            by_cases c109 : a0 ≥ 913
            · rw [if_pos c109] at H
              have c109b0 : decide (913 ≤ a0) = true := decide_eq_true c109
              clear c109
              by_cases c110 : a0 ≤ 969
              · rw [if_pos c110] at H
                have c110b0 : decide (a0 ≤ 969) = true := decide_eq_true c110
                clear c110
                by_cases c111 : a0 = 930
                · rw [if_pos c111] at H
                  have c111b0 : (a0 == 930) = true := beq_iff_eq.mpr c111
                  have c111b1 : (a0 != 930) = false := bne_eq_false_iff_eq.mpr c111
                  clear c111
                  by_cases c112 : a0 ≥ 1040
                  · rw [if_pos c112] at H
                    have c112b0 : decide (1040 ≤ a0) = true := decide_eq_true c112
                    clear c112
                    have H' := Aside0.mk H
                    clear H
                    go_wp2
                    go_meet
                    case rel => exact ⟨_, (decide (a0 ≤ 1103)), (by first | rfl | (simp; done) | (simp [*]; done)), H', ⟨by first | omega | exact Nat.le_refl _⟩, by repeat (first | exact Drawn0.refl _ | apply Drawn0.step)⟩
                  · rw [if_neg c112] at H
                    have c112b0 : decide (1040 ≤ a0) = false := decide_eq_false c112
                    clear c112
                    have H' := Aside0.mk H
                    clear H
                    go_wp2
                    go_meet
                    case rel => exact ⟨_, (false), (by first | rfl | (simp; done) | (simp [*]; done)), H', ⟨by first | omega | exact Nat.le_refl _⟩, by repeat (first | exact Drawn0.refl _ | apply Drawn0.step)⟩
                · rw [if_neg c111] at H
                  have c111b0 : (a0 == 930) = false := beq_eq_false_iff_ne.mpr c111
                  have c111b1 : (a0 != 930) = true := bne_iff_ne.mpr c111
                  have H' := Aside0.mk H
                  clear H
                  go_wp2
                  go_meet
                  case rel => exact ⟨_, (true), (by first | rfl | (simp; done) | (simp [*]; done)), H', ⟨by first | omega | exact Nat.le_refl _⟩, by repeat (first | exact Drawn0.refl _ | apply Drawn0.step)⟩
              · rw [if_neg c110] at H
                have c110b0 : decide (a0 ≤ 969) = false := decide_eq_false c110
                clear c110
                by_cases c113 : a0 ≥ 1040
                · rw [if_pos c113] at H
                  have c113b0 : decide (1040 ≤ a0) = true := decide_eq_true c113
                  clear c113
                  have H' := Aside0.mk H
                  clear H
                  go_wp2
                  go_meet
                  case rel => exact ⟨_, (decide (a0 ≤ 1103)), (by first | rfl | (simp; done) | (simp [*]; done)), H', ⟨by first | omega | exact Nat.le_refl _⟩, by repeat (first | exact Drawn0.refl _ | apply Drawn0.step)⟩
                · rw [if_neg c113] at H
                  have c113b0 : decide (1040 ≤ a0) = false := decide_eq_false c113
                  clear c113
                  have H' := Aside0.mk H
                  clear H
                  go_wp2
                  go_meet
                  case rel => exact ⟨_, (false), (by first | rfl | (simp; done) | (simp [*]; done)), H', ⟨by first | omega | exact Nat.le_refl _⟩, by repeat (first | exact Drawn0.refl _ | apply Drawn0.step)⟩
            · rw [if_neg c109] at H
              have c109b0 : decide (913 ≤ a0) = false := decide_eq_false c109
              clear c109
              by_cases c114 : a0 ≥ 1040
              · rw [if_pos c114] at H
                have c114b0 : decide (1040 ≤ a0) = true := decide_eq_true c114
                clear c114
                have H' := Aside0.mk H
                clear H
                go_wp2
                go_meet
                case rel => exact ⟨_, (decide (a0 ≤ 1103)), (by first | rfl | (simp; done) | (simp [*]; done)), H', ⟨by first | omega | exact Nat.le_refl _⟩, by repeat (first | exact Drawn0.refl _ | apply Drawn0.step)⟩
              · rw [if_neg c114] at H
                have c114b0 : decide (1040 ≤ a0) = false := decide_eq_false c114
                clear c114
                have H' := Aside0.mk H
                clear H
                go_wp2
                go_meet
                case rel => exact ⟨_, (false), (by first | rfl | (simp; done) | (simp [*]; done)), H', ⟨by first | omega | exact Nat.le_refl _⟩, by repeat (first | exact Drawn0.refl _ | apply Drawn0.step)⟩
        · rw [if_neg c93] at H
          have c93b0 : decide (192 ≤ a0) = false := decide_eq_false c93
          clear c93
          by_cases c115 : a0 ≥ 913
          · rw [if_pos c115] at H
            have c115b0 : decide (913 ≤ a0) = true := decide_eq_true c115
            clear c115
            by_cases c116 : a0 ≤ 969
            · rw [if_pos c116] at H
              have c116b0 : decide (a0 ≤ 969) = true := decide_eq_true c116
              clear c116
              by_cases c117 : a0 = 930
              · rw [if_pos c117] at H
                have c117b0 : (a0 == 930) = true := beq_iff_eq.mpr c117
                have c117b1 : (a0 != 930) = false := bne_eq_false_iff_eq.mpr c117
                clear c117
                by_cases c118 : a0 ≥ 1040
                · rw [if_pos c118] at H
                  have c118b0 : decide (1040 ≤ a0) = true := decide_eq_true c118
                  clear c118
                  have H' := Aside0.mk H
                  clear H
                  go_wp2
                  go_meet
                  case rel => exact ⟨_, (decide (a0 ≤ 1103)), (by first | rfl | (simp; done) | (simp [*]; done)), H', ⟨by first | omega | exact Nat.le_refl _⟩, by repeat (first | exact Drawn0.refl _ | apply Drawn0.step)⟩
                · rw [if_neg c118] at H
                  have c118b0 : decide (1040 ≤ a0) = false := decide_eq_false c118
                  clear c118
                  have H' := Aside0.mk H
                  clear H
                  go_wp2
                  go_meet
                  case rel => exact ⟨_, (false), (by first | rfl | (simp; done) | (simp [*]; done)), H', ⟨by first | omega | exact Nat.le_refl _⟩, by repeat (first | exact Drawn0.refl _ | apply Drawn0.step)⟩
              · rw [if_neg c117] at H
                have c117b0 : (a0 == 930) = false := beq_eq_false_iff_ne.mpr c117
                have c117b1 : (a0 != 930) = true := bne_iff_ne.mpr c117
                have H' := Aside0.mk H
                clear H
                go_wp2
                go_meet
                case rel => exact ⟨_, (true), (by first | rfl | (simp; done) | (simp [*]; done)), H', ⟨by first | omega | exact Nat.le_refl _⟩, by repeat (first | exact Drawn0.refl _ | apply Drawn0.step)⟩
            · rw [if_neg c116] at H
              have c116b0 : decide (a0 ≤ 969) = false := decide_eq_false c116
              clear c116
              by_cases c119 : a0 ≥ 1040
              · rw [if_pos c119] at H
                have c119b0 : decide (1040 ≤ a0) = true := decide_eq_true c119
                clear c119
                have H' := Aside0.mk H
                clear H
                go_wp2
                go_meet
                case rel => exact ⟨_, (decide (a0 ≤ 1103)), (by first | rfl | (simp; done) | (simp [*]; done)), H', ⟨by first | omega | exact Nat.le_refl _⟩, by repeat (first | exact Drawn0.refl _ | apply Drawn0.step)⟩
              · rw [if_neg c119] at H
                have c119b0 : decide (1040 ≤ a0) = false := decide_eq_false c119
                clear c119
                have H' := Aside0.mk H
                clear H
                go_wp2
                go_meet
                case rel => exact ⟨_, (false), (by first | rfl | (simp; done) | (simp [*]; done)), H', ⟨by first | omega | exact Nat.le_refl _⟩, by repeat (first | exact Drawn0.refl _ | apply Drawn0.step)⟩
          · rw [if_neg c115] at H
            have c115b0 : decide (913 ≤ a0) = false := decide_eq_false c115
            clear c115
            by_cases c120 : a0 ≥ 1040
            · rw [if_pos c120] at H
              have c120b0 : decide (1040 ≤ a0) = true := decide_eq_true c120
              clear c120
              have H' := Aside0.mk H
              clear H
              go_wp2
              go_meet
              case rel => exact ⟨_, (decide (a0 ≤ 1103)), (by first | rfl | (simp; done) | (simp [*]; done)), H', ⟨by first | omega | exact Nat.le_refl _⟩, by repeat (first | exact Drawn0.refl _ | apply Drawn0.step)⟩
            · rw [if_neg c120] at H
              have c120b0 : decide (1040 ≤ a0) = false := decide_eq_false c120
              clear c120
              have H' := Aside0.mk H
              clear H
              go_wp2
              go_meet
              case rel => exact ⟨_, (false), (by first | rfl | (simp; done) | (simp [*]; done)), H', ⟨by first | omega | exact Nat.le_refl _⟩, by repeat (first | exact Drawn0.refl _ | apply Drawn0.step)⟩
  case rest =>
    clear HC2
    try clear c1
    try clear p2
    try clear c6
    try clear c7
    try clear c8
    try clear c9
    try clear c10
    try clear c11
    try clear c12
    try clear c63
    try clear c63b0
    try clear c65
    try clear c65b0
    try clear c66
    try clear c66b0
    try clear c74
    try clear c74b0
    try clear c74b1
    try clear c75
    try clear c75b0
    try clear c76
    try clear c76b0
    try clear c77
    try clear c77b0
    try clear c77b1
    try clear c78
    try clear c78b0
    try clear c79
    try clear c79b0
    try clear c80
    try clear c80b0
    try clear c81
    try clear c81b0
    try clear c82
    try clear c82b0
    try clear c83
    try clear c83b0
    try clear c83b1
    try clear c84
    try clear c84b0
    try clear c85
    try clear c85b0
    try clear c86
    try clear c86b0
    try clear c87
    try clear c87b0
    try clear c88
    try clear c88b0
    try clear c89
    try clear c89b0
    try clear c89b1
    try clear c90
    try clear c90b0
    try clear c91
    try clear c91b0
    try clear c92
    try clear c92b0
    try clear c93
    try clear c93b0
    try clear c94
    try clear c94b0
    try clear c95
    try clear c95b0
    try clear c95b1
    try clear c96
    try clear c96b0
    try clear c97
    try clear c97b0
    try clear c98
    try clear c98b0
    try clear c98b1
    try clear c99
    try clear c99b0
    try clear c100
    try clear c100b0
    try clear c101
    try clear c101b0
    try clear c102
    try clear c102b0
    try clear c102b1
    try clear c103
    try clear c103b0
    try clear c104
    try clear c104b0
    try clear c105
    try clear c105b0
    try clear c105b1
    try clear c106
    try clear c106b0
    try clear c107
    try clear c107b0
    try clear c108
    try clear c108b0
    try clear c109
    try clear c109b0
    try clear c110
    try clear c110b0
    try clear c111
    try clear c111b0
    try clear c111b1
    try clear c112
    try clear c112b0
    try clear c113
    try clear c113b0
    try clear c114
    try clear c114b0
    try clear c115
    try clear c115b0
    try clear c116
    try clear c116b0
    try clear c117
    try clear c117b0
    try clear c117b1
    try clear c118
    try clear c118b0
    try clear c119
    try clear c119b0
    try clear c120
    try clear c120b0
    obtain ⟨kq, x52_1, rfl, HA, HJ1, ⟨mc1, rfl⟩⟩ := hcut
    cases kq with
    | zero => exact absurd HA.out (by simp [traceryref01_Class.j0])
    | succ kj1 =>
      have H := HA.out
      clear HA
      simp only [traceryref01_Class.j0] at H
      by_cases c121 : x52_1 = true
      · subst c121
        have H1 : (some 1) = some r := by rw [if_pos rfl] at H; exact H
        clear H
        have H := H1
        clear H1
        obtain rfl := Option.some.inj H
        go_wp2
        go_ret
        exact ⟨by first | rfl | (simp; done) | (simp [*]; done), by repeat (first | exact Drawn0.refl _ | apply Drawn0.step)⟩
      · replace c121 := Bool.eq_false_iff.mpr c121
        subst c121
        have H1 : (if a0 ≥ 48 then (traceryref01_Class.j1 kj1 a0 (decide (a0 ≤ 57))) else (traceryref01_Class.j1 kj1 a0 false)) = some r := by rw [if_neg (show ¬ (false = true) by decide)] at H; exact H
        clear H
        have H := H1
        clear H1
        have HC122 := Aside0.mk H
        clear H
        go_upto_region 3 with (fail)
        go_cut [58] (fun v58 wc => ∃ (kq : Nat) (x58_121 : Bool), v58 = .bool x58_121 ∧ Aside0 (traceryref01_Class.j1 kq a0 x58_121 = some r) ∧ Aside0 (kq ≤ kj1) ∧ Drawn0 w wc)
        case first =>
          have H := HC122.out
          clear HC122
          by_cases c123 : a0 ≥ 48
          · rw [if_pos c123] at H
            have c123b0 : decide (48 ≤ a0) = true := decide_eq_true c123
            clear c123
            (first | rw [c123b0] | (simp only [i64_w, i32_w]; rw [c123b0]) | skip)
            have H' := Aside0.mk H
            clear H
            go_wp2
            go_meet
            case rel => exact ⟨_, (decide (a0 ≤ 57)), (by first | rfl | (simp; done) | (simp [*]; done)), H', ⟨by have := HJ1.out; first | omega | exact Nat.le_refl _⟩, by repeat (first | exact Drawn0.refl _ | apply Drawn0.step)⟩
          · rw [if_neg c123] at H
            have c123b0 : decide (48 ≤ a0) = false := decide_eq_false c123
            clear c123
            (first | rw [c123b0] | (simp only [i64_w, i32_w]; rw [c123b0]) | skip)
            have H' := Aside0.mk H
            clear H
            go_wp2
            go_meet
            case rel => exact ⟨_, (false), (by first | rfl | (simp; done) | (simp [*]; done)), H', ⟨by have := HJ1.out; first | omega | exact Nat.le_refl _⟩, by repeat (first | exact Drawn0.refl _ | apply Drawn0.step)⟩
        case rest =>
          clear HC122
          try clear c1
          try clear p2
          try clear c6
          try clear c7
          try clear c8
          try clear c9
          try clear c10
          try clear c11
          try clear c12
          try clear c63
          try clear c63b0
          try clear c65
          try clear c65b0
          try clear c66
          try clear c66b0
          try clear c74
          try clear c74b0
          try clear c74b1
          try clear c75
          try clear c75b0
          try clear c76
          try clear c76b0
          try clear c77
          try clear c77b0
          try clear c77b1
          try clear c78
          try clear c78b0
          try clear c79
          try clear c79b0
          try clear c80
          try clear c80b0
          try clear c81
          try clear c81b0
          try clear c82
          try clear c82b0
          try clear c83
          try clear c83b0
          try clear c83b1
          try clear c84
          try clear c84b0
          try clear c85
          try clear c85b0
          try clear c86
          try clear c86b0
          try clear c87
          try clear c87b0
          try clear c88
          try clear c88b0
          try clear c89
          try clear c89b0
          try clear c89b1
          try clear c90
          try clear c90b0
          try clear c91
          try clear c91b0
          try clear c92
          try clear c92b0
          try clear c93
          try clear c93b0
          try clear c94
          try clear c94b0
          try clear c95
          try clear c95b0
          try clear c95b1
          try clear c96
          try clear c96b0
          try clear c97
          try clear c97b0
          try clear c98
          try clear c98b0
          try clear c98b1
          try clear c99
          try clear c99b0
          try clear c100
          try clear c100b0
          try clear c101
          try clear c101b0
          try clear c102
          try clear c102b0
          try clear c102b1
          try clear c103
          try clear c103b0
          try clear c104
          try clear c104b0
          try clear c105
          try clear c105b0
          try clear c105b1
          try clear c106
          try clear c106b0
          try clear c107
          try clear c107b0
          try clear c108
          try clear c108b0
          try clear c109
          try clear c109b0
          try clear c110
          try clear c110b0
          try clear c111
          try clear c111b0
          try clear c111b1
          try clear c112
          try clear c112b0
          try clear c113
          try clear c113b0
          try clear c114
          try clear c114b0
          try clear c115
          try clear c115b0
          try clear c116
          try clear c116b0
          try clear c117
          try clear c117b0
          try clear c117b1
          try clear c118
          try clear c118b0
          try clear c119
          try clear c119b0
          try clear c120
          try clear c120b0
          try clear c121
          try clear c123
          try clear c123b0
          try clear p2
          obtain ⟨kq, x58_121, rfl, HA, HJ121, ⟨mc121, rfl⟩⟩ := hcut
          cases kq with
          | zero => exact absurd HA.out (by simp [traceryref01_Class.j1])
          | succ kj121 =>
            have H := HA.out
            clear HA
            simp only [traceryref01_Class.j1] at H
            by_cases c124 : x58_121 = true
            · subst c124
              have H1 : (some 2) = some r := by rw [if_pos rfl] at H; exact H
              clear H
              have H := H1
              clear H1
              obtain rfl := Option.some.inj H
              go_wp2
              go_ret
              exact ⟨by first | rfl | (simp; done) | (simp [*]; done), by repeat (first | exact Drawn0.refl _ | apply Drawn0.step)⟩
            · replace c124 := Bool.eq_false_iff.mpr c124
              subst c124
              have H1 : (if a0 = 95 then (traceryref01_Class.j2 kj121 a0 true) else (if a0 ≥ 8242 then (traceryref01_Class.j2 kj121 a0 (decide (a0 ≤ 8244))) else (traceryref01_Class.j2 kj121 a0 false))) = some r := by rw [if_neg (show ¬ (false = true) by decide)] at H; exact H
              clear H
              have H := H1
              clear H1
              have HC125 := Aside0.mk H
              clear H
              go_upto_region 5 with (fail)
              go_cut [68] (fun v68 wc => ∃ (kq : Nat) (x68_124 : Bool), v68 = .bool x68_124 ∧ Aside0 (traceryref01_Class.j2 kq a0 x68_124 = some r) ∧ Aside0 (kq ≤ kj121) ∧ Drawn0 w wc)
              case first =>
                have H := HC125.out
                clear HC125
                by_cases c126 : a0 = 95
                · rw [if_pos c126] at H
                  have c126b0 : (a0 == 95) = true := beq_iff_eq.mpr c126
                  have c126b1 : (a0 != 95) = false := bne_eq_false_iff_eq.mpr c126
                  clear c126
                  (first | rw [c126b0] | (simp only [i64_w, i32_w]; rw [c126b0]) | skip)
                  have H' := Aside0.mk H
                  clear H
                  go_wp2
                  go_meet
                  case rel => exact ⟨_, (true), (by first | rfl | (simp; done) | (simp [*]; done)), H', ⟨by have := HJ1.out; have := HJ121.out; first | omega | exact Nat.le_refl _⟩, by repeat (first | exact Drawn0.refl _ | apply Drawn0.step)⟩
                · rw [if_neg c126] at H
                  have c126b0 : (a0 == 95) = false := beq_eq_false_iff_ne.mpr c126
                  have c126b1 : (a0 != 95) = true := bne_iff_ne.mpr c126
                  (first | rw [c126b0] | (simp only [i64_w, i32_w]; rw [c126b0]) | skip)
                  by_cases c127 : a0 ≥ 8242
                  · rw [if_pos c127] at H
                    have c127b0 : decide (8242 ≤ a0) = true := decide_eq_true c127
                    clear c127
                    have H' := Aside0.mk H
                    clear H
                    go_wp2
                    go_meet
                    case rel => exact ⟨_, (decide (a0 ≤ 8244)), (by first | rfl | (simp; done) | (simp [*]; done)), H', ⟨by have := HJ1.out; have := HJ121.out; first | omega | exact Nat.le_refl _⟩, by repeat (first | exact Drawn0.refl _ | apply Drawn0.step)⟩
                  · rw [if_neg c127] at H
                    have c127b0 : decide (8242 ≤ a0) = false := decide_eq_false c127
                    clear c127
                    have H' := Aside0.mk H
                    clear H
                    go_wp2
                    go_meet
                    case rel => exact ⟨_, (false), (by first | rfl | (simp; done) | (simp [*]; done)), H', ⟨by have := HJ1.out; have := HJ121.out; first | omega | exact Nat.le_refl _⟩, by repeat (first | exact Drawn0.refl _ | apply Drawn0.step)⟩
              case rest =>
                clear HC125
                try clear c1
                try clear p2
                try clear c6
                try clear c7
                try clear c8
                try clear c9
                try clear c10
                try clear c11
                try clear c12
                try clear c63
                try clear c63b0
                try clear c65
                try clear c65b0
                try clear c66
                try clear c66b0
                try clear c74
                try clear c74b0
                try clear c74b1
                try clear c75
                try clear c75b0
                try clear c76
                try clear c76b0
                try clear c77
                try clear c77b0
                try clear c77b1
                try clear c78
                try clear c78b0
                try clear c79
                try clear c79b0
                try clear c80
                try clear c80b0
                try clear c81
                try clear c81b0
                try clear c82
                try clear c82b0
                try clear c83
                try clear c83b0
                try clear c83b1
                try clear c84
                try clear c84b0
                try clear c85
                try clear c85b0
                try clear c86
                try clear c86b0
                try clear c87
                try clear c87b0
                try clear c88
                try clear c88b0
                try clear c89
                try clear c89b0
                try clear c89b1
                try clear c90
                try clear c90b0
                try clear c91
                try clear c91b0
                try clear c92
                try clear c92b0
                try clear c93
                try clear c93b0
                try clear c94
                try clear c94b0
                try clear c95
                try clear c95b0
                try clear c95b1
                try clear c96
                try clear c96b0
                try clear c97
                try clear c97b0
                try clear c98
                try clear c98b0
                try clear c98b1
                try clear c99
                try clear c99b0
                try clear c100
                try clear c100b0
                try clear c101
                try clear c101b0
                try clear c102
                try clear c102b0
                try clear c102b1
                try clear c103
                try clear c103b0
                try clear c104
                try clear c104b0
                try clear c105
                try clear c105b0
                try clear c105b1
                try clear c106
                try clear c106b0
                try clear c107
                try clear c107b0
                try clear c108
                try clear c108b0
                try clear c109
                try clear c109b0
                try clear c110
                try clear c110b0
                try clear c111
                try clear c111b0
                try clear c111b1
                try clear c112
                try clear c112b0
                try clear c113
                try clear c113b0
                try clear c114
                try clear c114b0
                try clear c115
                try clear c115b0
                try clear c116
                try clear c116b0
                try clear c117
                try clear c117b0
                try clear c117b1
                try clear c118
                try clear c118b0
                try clear c119
                try clear c119b0
                try clear c120
                try clear c120b0
                try clear c121
                try clear c123
                try clear c123b0
                try clear c124
                try clear c126
                try clear c126b0
                try clear c126b1
                try clear c127
                try clear c127b0
                try clear p2
                obtain ⟨kq, x68_124, rfl, HA, HJ124, ⟨mc124, rfl⟩⟩ := hcut
                cases kq with
                | zero => exact absurd HA.out (by simp [traceryref01_Class.j2])
                | succ kj124 =>
                  have H := HA.out
                  clear HA
                  simp only [traceryref01_Class.j2] at H
                  by_cases c128 : x68_124 = true
                  · subst c128
                    have H1 : (some 3) = some r := by rw [if_pos rfl] at H; exact H
                    clear H
                    have H := H1
                    clear H1
                    obtain rfl := Option.some.inj H
                    go_wp2
                    go_ret
                    exact ⟨by first | rfl | (simp; done) | (simp [*]; done), by repeat (first | exact Drawn0.refl _ | apply Drawn0.step)⟩
                  · replace c128 := Bool.eq_false_iff.mpr c128
                    subst c128
                    have H1 : (if a0 = 32 then (some 4) else (some 0)) = some r := by rw [if_neg (show ¬ (false = true) by decide)] at H; exact H
                    clear H
                    have H := H1
                    clear H1
                    by_cases c129 : a0 = 32
                    · rw [if_pos c129] at H
                      have c129b0 : (a0 == 32) = true := beq_iff_eq.mpr c129
                      have c129b1 : (a0 != 32) = false := bne_eq_false_iff_eq.mpr c129
                      clear c129
                      obtain rfl := Option.some.inj H
                      go_wp2
                      go_ret
                      exact ⟨by first | rfl | (simp; done) | (simp [*]; done), by repeat (first | exact Drawn0.refl _ | apply Drawn0.step)⟩
                    · rw [if_neg c129] at H
                      have c129b0 : (a0 == 32) = false := beq_eq_false_iff_ne.mpr c129
                      have c129b1 : (a0 != 32) = true := bne_iff_ne.mpr c129
                      obtain rfl := Option.some.inj H
                      go_wp2
                      go_ret
                      exact ⟨by first | rfl | (simp; done) | (simp [*]; done), by repeat (first | exact Drawn0.refl _ | apply Drawn0.step)⟩

end Go.Proofs.Ytdhnoclkepopgaa.PA
