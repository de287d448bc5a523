-- Written by wip/tools/gprint.py of this repo (the kit's printer, some functions given).
import Derived.Test.YtdhnoclkepopgaaPAx0
import Derived.Test.YtdhnoclkepopgaaPAx4
namespace Go.Proofs.Ytdhnoclkepopgaa.PA
open Go.RowKit Go.Proofs.YtdhnoclkepopgaaW.PrintWords Go.Proofs.YtdhnoclkepopgaaW.PrintLast Go.Proofs.YtdhnoclkepopgaaW.PrintMore
attribute [local go_sem] max2_int min2_int max_two min_two max_three min_three max_four min_four   -- for this text's walks alone
set_option linter.unusedVariables false
set_option linter.unusedSimpArgs false
set_option linter.unnecessarySimpa false

/-! ### word_Number: function 13 -/
def word_Number.f (a0 : ByteArray) : Option (Int × Bool) := if a0.size ≤ 140737488351232 then some (Text.number a0) else none
theorem number_no (s : ByteArray) (w W : World) (r1 : Int) (r2 : Bool) (h : Text.number s = (r1, r2)) (hb : s.size = 0 ∨ 9 < s.size ∨ ((Text.bt0 s = 48) ∧ s.size ≠ 1)) : Ending.returned (Value.tuple #[.int .i64 0, .bool false]) = Ending.returned (Value.tuple #[.int .i64 r1, .bool r2]) := by
  unfold Text.number at h
  rw [if_pos hb] at h
  cases h
  rfl
set_option maxHeartbeats 8000000 in
set_option maxRecDepth 100000 in
theorem word_Number.calls (a0 : ByteArray) (r1 : Int) (r2 : Bool) (w : World) (h : word_Number.f a0 = some (r1, r2)) :
    Calls Try.prog 13 #[.string a0] w fun e w' => e = .returned (.tuple #[.int .i64 r1, .bool r2]) ∧ Below w.heap.size w w' := by
  unfold word_Number.f at h
  by_cases hsz : a0.size ≤ 140737488351232
  rotate_left
  · rw [if_neg hsz] at h; cases h
  rw [if_pos hsz] at h
  have HR := Aside0.mk (Option.some.inj h)
  clear h
  by_cases h0 : a0.size = 0
  · have e0 : a0.toList.isEmpty = true := List.isEmpty_iff.2 ((Text.toList_nil a0).2 h0)
    have e0' : a0.toList = [] := (Text.toList_nil a0).2 h0
    have H0 := Aside0.mk h0
    clear h0
    go_enter Try.func13, Try.ntmps13
    go_wp2
    go_ret2
    exact ⟨number_no _ w w _ _ HR.out (.inl H0.out), Below.refl _ _⟩
  have e0' : ¬ a0.toList = [] := fun h => h0 ((Text.toList_nil a0).1 h)
  have e0 : a0.toList.isEmpty = false := by simpa using e0'
  by_cases h9 : 9 < a0.size
  · have e9 : decide (9 < (a0.size : Int)) = true := decide_eq_true (by omega)
    have H9 := Aside0.mk h9
    clear h9 h0
    go_enter Try.func13, Try.ntmps13
    go_wp2
    go_ret2
    exact ⟨number_no _ w w _ _ HR.out (.inr (.inl H9.out)), Below.refl _ _⟩
  have hlt : 0 < a0.size := by omega
  have hb0 : Text.bt0 a0 = ((a0[0]'hlt).toNat : Int) := by unfold Text.bt0; rw [dif_pos hlt]
  by_cases h48 : ((a0[0]'hlt).toNat : Int) = 48 ∧ a0.size ≠ 1
  · have e1 : (((a0[0]'hlt).toNat : Int) == 48) = true := beq_iff_eq.2 h48.1
    have e2 : (!a0.toList == [48]) = true := by
      have : ¬ a0.toList = [48] := fun h => h48.2 ((Text.toList_nought a0 hlt).1 h).1
      simpa using this
    have H48 := Aside0.mk (And.intro (hb0.trans h48.1) h48.2)
    clear h48 hb0
    go_enter Try.func13, Try.ntmps13
    go_wp2
    go_ret2
    exact ⟨number_no _ w w _ _ HR.out (.inr (.inr H48.out)), Below.refl _ _⟩
  have HR1 : Aside0 (Text.numGo (Text.runes a0 a0.size 0) 0 = (r1, r2)) := ⟨by
    have := HR.out
    unfold Text.number at this
    rw [if_neg (by rw [hb0]; omega)] at this
    exact this⟩
  clear HR
  have e3 : (((a0[0]'hlt).toNat : Int) == 48) = false ∨ (((a0[0]'hlt).toNat : Int) == 48) = true ∧ (!a0.toList == [48]) = false := by
    by_cases hq : ((a0[0]'hlt).toNat : Int) = 48
    · have h1 : a0.size = 1 := by omega
      exact .inr ⟨beq_iff_eq.2 hq, by rw [(Text.toList_nought a0 hlt).2 ⟨h1, hq⟩]; rfl⟩
    · exact .inl (beq_eq_false_iff_ne.2 hq)
  clear hb0 h48
  rcases e3 with e3 | ⟨e3, e4⟩
  all_goals
    go_enter Try.func13, Try.ntmps13
    go_wp2
    go_loopw [4] (fun v4 wr => ∃ (pos fuel : Nat) (n : Int), v4 = .int .i64 n ∧ wr.heap[w.heap.size]? = some (.stringIter a0 pos) ∧ Aside0 (Below w.heap.size w wr) ∧ Aside0 (Text.numGo (Text.runes a0 fuel pos) n = (r1, r2)) ∧ a0.size ≤ pos + fuel ∧ 0 ≤ n ∧ Aside0 (n < Text.ten pos)) (fun _ wr => a0.size - wr.iterPos w.heap.size)
    case atStart => exact ⟨0, a0.size, 0, rfl, World.iter_heap w a0 0, ⟨(Below.refl _ _).alloc (Nat.le_refl _) _⟩, HR1, by omega, by omega, ⟨by decide⟩⟩
    case round =>
      clear HR1
      obtain ⟨pos, fuel, n, rfl, hit, HB, HG, hfu, hn0, HT⟩ := hrel
      have hpos0 := iter_pos hit
      by_cases hp : pos < a0.size
      · have hnx : ∀ ty, (Instr.next (.pointer (some ⟨w.heap.size, 0, none⟩)) true ty).run Try.prog wr = _ := fun ty => Lib.run_next_any_at wr w.heap.size a0 pos ty hit hp
        have hwd := Text.width_pos a0 pos hp
        obtain ⟨fuel, rfl⟩ : ∃ f', fuel = f' + 1 := ⟨fuel - 1, by omega⟩
        have hit2 := Lib.iterAt_heap wr w.heap.size a0 pos (pos + (Utf8.decode a0 pos).2) hit
        have HB2 := Aside0.mk (Lib.below_iterAt HB.out (k := w.heap.size) (Nat.le_refl _) a0 (pos + (Utf8.decode a0 pos).2))
        obtain ⟨W1, hW1⟩ : ∃ W1, W1 = wr.iterAt w.heap.size a0 (pos + (Utf8.decode a0 pos).2) := ⟨_, rfl⟩
        rw [← hW1] at hnx hit2 HB2
        have HG2 : Aside0 (Text.numGo ((pos, (Utf8.decode a0 pos).1) :: Text.runes a0 fuel (pos + (Utf8.decode a0 pos).2)) n = (r1, r2)) := ⟨by rw [← Text.runes_next _ _ _ hp]; exact HG.out⟩
        have hT8 : n < 100000000 := by have := HT.out; have := Text.ten_le (show pos ≤ 8 by omega); simp only [show Text.ten 8 = 100000000 from rfl] at this; omega
        have HT2 : Aside0 (10 * n + 10 ≤ Text.ten (pos + (Utf8.decode a0 pos).2)) := ⟨by
          have h1 := HT.out
          have h2 := Text.ten_le (show pos + 1 ≤ pos + (Utf8.decode a0 pos).2 by omega)
          simp only [Text.ten] at h2
          omega⟩
        clear HG hW1 hit HB HT
        by_cases hc : Text.cls ((Utf8.decode a0 pos).1 : Int) = 2
        · have hc1 : (Text.cls ((Utf8.decode a0 pos).1 : Int) != 2) = false := by rw [hc]; rfl
          obtain ⟨hd1, hd2⟩ := Text.cls_digit hc
          have HC := Aside0.mk hc
          clear hc
          go_wp2_with (go_at_call 17; refine (class_any _ _).mono ?_; rintro e w' ⟨m, rfl, rfl⟩)
          go_roundw
          case rel => exact ⟨_, fuel, 10 * n + (((Utf8.decode a0 pos).1 : Int) - 48), (by go_num), hit2, ⟨pw_below_drewN HB2.out _⟩, ⟨by rw [← HG2.out]; simp only [Text.numGo]; rw [if_pos HC.out]⟩, by omega, by omega, ⟨by have := HT2.out; omega⟩⟩
          case measure =>
            rw [hpos0, iter_pos (w := W1.drewN m) hit2]
            omega
        · have hc1 : (Text.cls ((Utf8.decode a0 pos).1 : Int) != 2) = true := bne_iff_ne.2 hc
          have HC := Aside0.mk hc
          clear hc
          go_wp2_with (go_at_call 17; refine (class_any _ _).mono ?_; rintro e w' ⟨m, rfl, rfl⟩)
          go_ret2
          refine ⟨?_, pw_below_drewN HB2.out _⟩
          have := HG2.out
          simp only [Text.numGo] at this
          rw [if_neg HC.out] at this
          cases this
          rfl
      · have hnx : ∀ ty, (Instr.next (.pointer (some ⟨w.heap.size, 0, none⟩)) true ty).run Try.prog wr = _ := fun ty => Lib.run_next_end_at wr w.heap.size a0 pos ty hit hp
        have HR2 : Aside0 ((n, true) = (r1, r2)) := ⟨by rw [← HG.out, Text.runes_end _ _ _ hp]; rfl⟩
        clear HG
        go_wp2
        go_ret2
        refine ⟨?_, HB.out⟩
        cases HR2.out
        rfl

end Go.Proofs.Ytdhnoclkepopgaa.PA
