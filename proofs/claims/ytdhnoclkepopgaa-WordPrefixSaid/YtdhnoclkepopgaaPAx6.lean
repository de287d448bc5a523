-- Written by wip/tools/gprint.py of this repo (the kit's printer, some functions given).
import Derived.Test.YtdhnoclkepopgaaPAx0
import Derived.Test.YtdhnoclkepopgaaPAx4
import Derived.Test.YtdhnoclkepopgaaPAx5
namespace Go.Proofs.Ytdhnoclkepopgaa.PA
open Go.RowKit Go.Proofs.YtdhnoclkepopgaaW.PrintWords Go.Proofs.YtdhnoclkepopgaaW.PrintLast Go.Proofs.YtdhnoclkepopgaaW.PrintMore
attribute [local go_sem] max2_int min2_int max_two min_two max_three min_three max_four min_four   -- for this text's walks alone
set_option linter.unusedVariables false
set_option linter.unusedSimpArgs false
set_option linter.unnecessarySimpa false

/-! ### word_Bad: function 15 -/
def plainB (r : Int) : Bool := decide (r = 10 ∨ (43 ≤ r ∧ r ≤ 47) ∨ r = 58 ∨ r = 124)
theorem plain_f (r : Int) : word_plain.f r = some (plainB r) := by
  unfold word_plain.f plainB
  by_cases h1 : r = 10 <;> by_cases h2 : 43 ≤ r <;> by_cases h3 : r ≤ 47 <;> by_cases h4 : r = 58 <;> by_cases h5 : r = 124 <;> simp [h1, h2, h3, h4, h5]
theorem plain_any (r : Int) (w : World) : Calls Try.prog 23 #[.int .i32 r] w fun e w' => ∃ n, e = .returned (.bool (plainB r)) ∧ w' = w.drewN n := (word_plain.calls r _ w (plain_f r)).mono fun _ _ ⟨he, hd⟩ => ⟨hd.out.choose, he, hd.out.choose_spec⟩
theorem bad_yes {p r : Nat} {l : List (Nat × Nat)} {r1 : Int} {r2 : Bool} (h : Text.badGo ((p, r) :: l) = (r1, r2)) (hr : ((r : Int) = 65533) ∨ (Text.cls r = 0 ∧ plainB r = false)) : Ending.returned (Value.tuple #[.int .i64 p, .bool true]) = Ending.returned (Value.tuple #[.int .i64 r1, .bool r2]) := by
  simp only [Text.badGo, plainB, decide_eq_false_iff_not] at h hr
  rw [if_pos (by omega)] at h
  cases h
  rfl
theorem bad_no {p r : Nat} {l : List (Nat × Nat)} {x : Int × Bool} (h : Text.badGo ((p, r) :: l) = x) (hr : ¬ (((r : Int) = 65533) ∨ (Text.cls r = 0 ∧ plainB r = false))) : Text.badGo l = x := by
  simp only [Text.badGo, plainB, decide_eq_false_iff_not] at h hr
  rw [if_neg (by omega)] at h
  exact h
def word_Bad.f (a0 : ByteArray) : Option (Int × Bool) := if a0.size ≤ 140737488351232 then some (Text.bad a0) else none
set_option maxHeartbeats 8000000 in
set_option maxRecDepth 100000 in
theorem word_Bad.calls (a0 : ByteArray) (r1 : Int) (r2 : Bool) (w : World) (h : word_Bad.f a0 = some (r1, r2)) :
    Calls Try.prog 15 #[.string a0] w fun e w' => e = .returned (.tuple #[.int .i64 r1, .bool r2]) ∧ Below w.heap.size w w' := by
  unfold word_Bad.f at h
  by_cases hsz : a0.size ≤ 140737488351232
  rotate_left
  · rw [if_neg hsz] at h; cases h
  rw [if_pos hsz] at h
  have HR1 : Aside0 (Text.badGo (Text.runes a0 a0.size 0) = (r1, r2)) := ⟨Option.some.inj h⟩
  clear h
  go_enter Try.func15, Try.ntmps15
  go_wp2
  go_loopw [2] (fun _ wr => ∃ (pos fuel : Nat), wr.heap[w.heap.size]? = some (.stringIter a0 pos) ∧ Aside0 (Below w.heap.size w wr) ∧ Aside0 (Text.badGo (Text.runes a0 fuel pos) = (r1, r2)) ∧ a0.size ≤ pos + fuel) (fun _ wr => a0.size - wr.iterPos w.heap.size)
  case atStart => exact ⟨0, a0.size, World.iter_heap w a0 0, ⟨(Below.refl _ _).alloc (Nat.le_refl _) _⟩, HR1, by omega⟩
  case round =>
    clear HR1
    obtain ⟨pos, fuel, hit, HB, HG, hfu⟩ := hrel
    have hpos0 := iter_pos hit
    by_cases hp : pos < a0.size
    · have hnx : ∀ ty, (Instr.next (.pointer (some ⟨w.heap.size, 0, none⟩)) true ty).run Try.prog wr = _ := fun ty => Lib.run_next_any_at wr w.heap.size a0 pos ty hit hp
      have hwd := Text.width_pos a0 pos hp
      obtain ⟨fuel, rfl⟩ : ∃ f', fuel = f' + 1 := ⟨fuel - 1, by omega⟩
      have hit2 := Lib.iterAt_heap wr w.heap.size a0 pos (pos + (Utf8.decode a0 pos).2) hit
      have HB2 := Aside0.mk (Lib.below_iterAt HB.out (k := w.heap.size) (Nat.le_refl _) a0 (pos + (Utf8.decode a0 pos).2))
      obtain ⟨W1, hW1⟩ : ∃ W1, W1 = wr.iterAt w.heap.size a0 (pos + (Utf8.decode a0 pos).2) := ⟨_, rfl⟩
      rw [← hW1] at hnx hit2 HB2
      have HG2 : Aside0 (Text.badGo ((pos, (Utf8.decode a0 pos).1) :: Text.runes a0 fuel (pos + (Utf8.decode a0 pos).2)) = (r1, r2)) := ⟨by rw [← Text.runes_next _ _ _ hp]; exact HG.out⟩
      clear HG hW1 hit HB
      go_wp2_with (first
        | (go_at_call 17; refine (class_any _ _).mono ?_; rintro e w' ⟨m, rfl, rfl⟩)
        | (go_at_call 23; refine (plain_any _ _).mono ?_; rintro e w' ⟨m, rfl, rfl⟩))
      all_goals first
        | (go_ret2
           exact ⟨bad_yes HG2.out (by simp_all), (by first | exact HB2.out | exact pw_below_drewN HB2.out _)⟩)
        | (go_roundw
           case rel => exact ⟨_, fuel, hit2, ⟨by first | exact HB2.out | exact pw_below_drewN HB2.out _⟩, ⟨bad_no HG2.out (by simp_all)⟩, by omega⟩
           case measure =>
             rw [hpos0]
             first
               | (rw [iter_pos hit2]; omega)
               | (rw [iter_pos (w := W1.drewN _) hit2]; omega))
        | skip
      go_ways
    · have hnx : ∀ ty, (Instr.next (.pointer (some ⟨w.heap.size, 0, none⟩)) true ty).run Try.prog wr = _ := fun ty => Lib.run_next_end_at wr w.heap.size a0 pos ty hit hp
      have HR2 : Aside0 ((0, false) = (r1, r2)) := ⟨by rw [← HG.out, Text.runes_end _ _ _ hp]; rfl⟩
      clear HG
      go_wp2
      go_ret2
      refine ⟨?_, HB.out⟩
      cases HR2.out
      rfl


end Go.Proofs.Ytdhnoclkepopgaa.PA
