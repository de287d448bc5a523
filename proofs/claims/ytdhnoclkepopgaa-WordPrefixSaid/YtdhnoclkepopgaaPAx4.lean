-- Written by wip/tools/gprint.py of this repo (the kit's printer, some functions given).
import Derived.Test.YtdhnoclkepopgaaPAx0
import Derived.Test.YtdhnoclkepopgaaPAx3
namespace Go.Proofs.Ytdhnoclkepopgaa.PA
open Go.RowKit Go.Proofs.YtdhnoclkepopgaaW.PrintWords Go.Proofs.YtdhnoclkepopgaaW.PrintLast Go.Proofs.YtdhnoclkepopgaaW.PrintMore
attribute [local go_sem] max2_int min2_int max_two min_two max_three min_three max_four min_four   -- for this text's walks alone
set_option linter.unusedVariables false
set_option linter.unusedSimpArgs false
set_option linter.unnecessarySimpa false

/-! ### word_Name: function 11 -/
theorem class_j5 (k : Nat) (r : Int) (b : Bool) : word_Class.j5 (k + 1) r b = some (if b = true then 3 else Text.cls5 r) := by
  simp only [word_Class.j5, Text.cls5]
  cases b <;> by_cases h : r = 32 <;> simp [h]
theorem class_j4 (k : Nat) (r : Int) (b : Bool) : word_Class.j4 (k + 1 + 1) r b = some (if b = true then 2 else Text.cls4 r) := by
  simp only [word_Class.j4, Text.cls4, class_j5]
  cases b <;> by_cases h : r = 95 <;> by_cases h1 : 8242 ≤ r <;> by_cases h2 : r ≤ 8244 <;> simp [h, h1, h2]
theorem class_j3 (k : Nat) (r : Int) (b : Bool) : word_Class.j3 (k + 1 + 1 + 1) r b = some (if b = true then 1 else Text.cls3 r) := by
  simp only [word_Class.j3, Text.cls3, class_j4]
  cases b <;> by_cases h1 : 48 ≤ r <;> by_cases h2 : r ≤ 57 <;> simp [h1, h2]
theorem class_j2 (k : Nat) (r : Int) (b : Bool) : word_Class.j2 (k + 1 + 1 + 1 + 1) r b = some (if b = true then 1 else Text.cls2 r) := by
  simp only [word_Class.j2, Text.cls2, class_j3]
  cases b <;> by_cases h1 : 1040 ≤ r <;> by_cases h2 : r ≤ 1103 <;> simp [h1, h2]
theorem class_j1 (k : Nat) (r : Int) (b : Bool) : word_Class.j1 (k + 1 + 1 + 1 + 1 + 1) r b = some (if b = true then 1 else Text.cls1 r) := by
  simp only [word_Class.j1, Text.cls1, class_j2]
  cases b <;> by_cases h1 : 913 ≤ r <;> by_cases h2 : r ≤ 969 <;> by_cases h3 : r = 930 <;> simp [h1, h2, h3]
theorem class_j0 (k : Nat) (r : Int) (b : Bool) : word_Class.j0 (k + 1 + 1 + 1 + 1 + 1 + 1) r b = some (if b = true then 1 else Text.cls0 r) := by
  simp only [word_Class.j0, Text.cls0, class_j1]
  cases b <;> by_cases h1 : 192 ≤ r <;> by_cases h2 : r ≤ 591 <;> by_cases h3 : r = 215 <;> by_cases h4 : r = 247 <;> simp [h1, h2, h3, h4]
theorem word_Class_f (r : Int) : word_Class.f (0 + 1 + 1 + 1 + 1 + 1 + 1) r = some (Text.cls r) := by
  simp only [word_Class.f, Text.cls, class_j0]
  by_cases h1 : 97 ≤ r <;> by_cases h2 : r ≤ 122 <;> by_cases h3 : 65 ≤ r <;> by_cases h4 : r ≤ 90 <;> simp [h1, h2, h3, h4]

/-- A rune's class, known. -/
theorem class_any (r : Int) (w : World) : Calls Try.prog 17 #[.int .i32 r] w fun e w' => ∃ n, e = .returned (.int .i64 (Text.cls r)) ∧ w' = w.drewN n := (word_Class.calls _ r _ w (word_Class_f r)).mono fun _ _ ⟨he, hd⟩ => ⟨hd.out.choose, he, hd.out.choose_spec⟩

def word_Name.f (a0 : ByteArray) : Option Bool := if a0.size ≤ 140737488351232 then some (Text.name a0) else none
set_option maxHeartbeats 8000000 in
set_option maxRecDepth 100000 in
theorem word_Name.calls (a0 : ByteArray) (r : Bool) (w : World) (h : word_Name.f a0 = some r) :
    Calls Try.prog 11 #[.string a0] w fun e w' => e = .returned (.bool r) ∧ Below w.heap.size w w' := by
  unfold word_Name.f at h
  by_cases hsz : a0.size ≤ 140737488351232
  rotate_left
  · rw [if_neg hsz] at h; cases h
  rw [if_pos hsz] at h
  obtain rfl : Text.name a0 = r := Option.some.inj h
  clear h
  obtain ⟨R, hR⟩ : ∃ R, R = Text.name a0 := ⟨_, rfl⟩
  rw [← hR]
  have HR := Aside0.mk hR
  clear hR
  go_enter Try.func11, Try.ntmps11
  go_wp2
  go_loopw [3, 4] (fun v3 v4 wr => ∃ (pos fuel : Nat) (n g : Int), v3 = .int .i64 n ∧ v4 = .int .i64 g ∧ wr.heap[w.heap.size]? = some (.stringIter a0 pos) ∧ Aside0 (Below w.heap.size w wr) ∧ Aside0 (Text.nameGo (Text.runes a0 fuel pos) n g = R) ∧ a0.size ≤ pos + fuel ∧ 0 ≤ n ∧ n ≤ pos ∧ 0 ≤ g ∧ g ≤ pos) (fun _ _ wr => a0.size - wr.iterPos w.heap.size)
  case atStart => exact ⟨0, a0.size, 0, 0, rfl, rfl, World.iter_heap w a0 0, ⟨(Below.refl _ _).alloc (Nat.le_refl _) _⟩, ⟨HR.out.symm⟩, by omega, by omega, by omega, by omega, by omega⟩
  case round =>
    obtain ⟨pos, fuel, n, g, rfl, rfl, hit, HB, HG, hfu, hn0, hn1, hg0, hg1⟩ := hrel
    have hpos0 := iter_pos hit
    by_cases hp : pos < a0.size
    · have hnx : ∀ ty, (Instr.next (.pointer (some ⟨w.heap.size, 0, none⟩)) true ty).run Try.prog wr = _ := fun ty => Lib.run_next_any_at wr w.heap.size a0 pos ty hit hp
      have hwd := Text.width_pos a0 pos hp
      obtain ⟨fuel, rfl⟩ : ∃ f', fuel = f' + 1 := ⟨fuel - 1, by omega⟩
      have hit2 := Lib.iterAt_heap wr w.heap.size a0 pos (pos + (Utf8.decode a0 pos).2) hit
      have HB2 := Aside0.mk (Lib.below_iterAt HB.out (k := w.heap.size) (Nat.le_refl _) a0 (pos + (Utf8.decode a0 pos).2))
      obtain ⟨W1, hW1⟩ : ∃ W1, W1 = wr.iterAt w.heap.size a0 (pos + (Utf8.decode a0 pos).2) := ⟨_, rfl⟩
      rw [← hW1] at hnx hit2 HB2
      have HG2 : Aside0 (Text.nameGo ((pos, (Utf8.decode a0 pos).1) :: Text.runes a0 fuel (pos + (Utf8.decode a0 pos).2)) n g = R) := ⟨by rw [← Text.runes_next _ _ _ hp]; exact HG.out⟩
      clear HG hW1 hit HB
      go_wp2_with (go_at_call 17; refine (class_any _ _).mono ?_; rintro e w' ⟨m, rfl, rfl⟩)
      all_goals first
        | (go_ret
           exact ⟨by rw [← HG2.out]; simp_all [Text.nameGo], pw_below_drewN HB2.out _⟩)
        | (go_roundw
           case rel =>
             first
               | exact ⟨_, fuel, n + 1, g, (by go_num), rfl, hit2, ⟨pw_below_drewN HB2.out _⟩, ⟨by rw [← HG2.out]; simp_all [Text.nameGo]⟩, by omega, by omega, by omega, by omega, by omega⟩
               | exact ⟨_, fuel, n + 1, g + 1, (by go_num), (by go_num), hit2, ⟨pw_below_drewN HB2.out _⟩, ⟨by rw [← HG2.out]; simp_all [Text.nameGo]⟩, by omega, by omega, by omega, by omega, by omega⟩
           case measure =>
             rw [hpos0]
             have := iter_pos (w := W1.drewN m) hit2
             rw [this]
             omega)
        | skip
      go_goals
    · have hnx : ∀ ty, (Instr.next (.pointer (some ⟨w.heap.size, 0, none⟩)) true ty).run Try.prog wr = _ := fun ty => Lib.run_next_end_at wr w.heap.size a0 pos ty hit hp
      have hR : R = decide (1 ≤ n ∧ n ≤ 16 ∧ g ≤ 3) := by rw [← HG.out, Text.runes_end _ _ _ hp]; rfl
      have HR2 := Aside0.mk hR
      clear hR HR HG
      go_wp2
      all_goals (go_ret; exact ⟨congrArg (fun b => Ending.returned (Value.bool b)) (by rw [HR2.out]; first | rfl | (simp [*]; done) | (simp; omega)), HB.out⟩)


end Go.Proofs.Ytdhnoclkepopgaa.PA
