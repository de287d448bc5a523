-- Written by wip/tools/gprint.py of this repo (the kit's printer, some functions given).
import Derived.Test.YtdhnoclkepopgaaPAx0
import Derived.Test.YtdhnoclkepopgaaPAx4
import Derived.Test.YtdhnoclkepopgaaPAx7
namespace Go.Proofs.Ytdhnoclkepopgaa.PA
open Go.RowKit Go.Proofs.YtdhnoclkepopgaaW.PrintWords Go.Proofs.YtdhnoclkepopgaaW.PrintLast Go.Proofs.YtdhnoclkepopgaaW.PrintMore
attribute [local go_sem] max2_int min2_int max_two min_two max_three min_three max_four min_four   -- for this text's walks alone
set_option linter.unusedVariables false
set_option linter.unusedSimpArgs false
set_option linter.unnecessarySimpa false

/-! ### tracerylaw01_WordPrefix: function 4 -/
theorem awake_f : tracerylaw01_awake.f = some true := by kernel_rfl
theorem awake_any (w : World) : Calls Try.prog 9 #[] w fun e w' => e = .returned (.bool true) ∧ Below w.heap.size w w' := tracerylaw01_awake.calls true w awake_f
theorem name_any (s : ByteArray) (hs : s.size ≤ 140737488351232) (w : World) : Calls Try.prog 11 #[.string s] w fun e w' => e = .returned (.bool (Text.name s)) ∧ Below w.heap.size w w' := word_Name.calls s _ w (by unfold word_Name.f; rw [if_pos hs])

def tracerylaw01_WordPrefix.f (a0 : ByteArray) (_ : Int) : Option Bool := if a0.size ≤ 140737488351232 then some true else none
set_option maxHeartbeats 8000000 in
set_option maxRecDepth 100000 in
theorem tracerylaw01_WordPrefix.calls (a0 : ByteArray) (a1 : Int) (r : Bool) (w : World) (h : tracerylaw01_WordPrefix.f a0 a1 = some r) :
    Calls Try.prog 4 #[.string a0, .int .u8 a1] w fun e w' => e = .returned (.bool r) ∧ Below w.heap.size w w' := by
  unfold tracerylaw01_WordPrefix.f at h
  by_cases hsz : a0.size ≤ 140737488351232
  rotate_left
  · rw [if_neg hsz] at h; cases h
  rw [if_pos hsz] at h
  obtain rfl : true = r := Option.some.inj h
  clear h
  have HB := Aside0.mk (Below.refl w.heap.size w)
  by_cases h3 : a0.size ≤ 3000
  · have hd3 : decide (3000 < (a0.size : Int)) = false := decide_eq_false (by omega)
    cases hn : Text.name a0 with
    | false =>
      have HN := Aside0.mk hn
      clear hn
      go_enter Try.func4, Try.ntmps4
      go_wp2_with (first
        | (go_at_call 9; refine (awake_any _).mono ?_; rintro e w1 ⟨rfl, hb1⟩; have HB1 := Aside0.mk (below_then HB.out HB.out.size hb1); clear hb1 HB; have HB := HB1; clear HB1)
        | (go_at_call 11; refine (name_any _ hsz _).mono ?_; rw [HN.out]; rintro e w2 ⟨rfl, hb1⟩; have HB1 := Aside0.mk (below_then HB.out HB.out.size hb1); clear hb1 HB; have HB := HB1; clear HB1))
      go_ret
      exact ⟨rfl, HB.out⟩
    | true =>
      have HN := Aside0.mk hn
      clear hn
      go_enter Try.func4, Try.ntmps4
      go_wp2_with (first
        | (go_at_call 9; refine (awake_any _).mono ?_; rintro e w1 ⟨rfl, hb1⟩; have HB1 := Aside0.mk (below_then HB.out HB.out.size hb1); clear hb1 HB; have HB := HB1; clear HB1)
        | (go_at_call 11; refine (name_any _ hsz _).mono ?_; rw [HN.out]; rintro e w2 ⟨rfl, hb1⟩; have HB1 := Aside0.mk (below_then HB.out HB.out.size hb1); clear hb1 HB; have HB := HB1; clear HB1))
      obtain ⟨W0, hW0⟩ : ∃ W0, W0 = w2 := ⟨_, rfl⟩
      subst hW0
      go_loopw [5] (fun v5 wr => ∃ (pos fuel : Nat) (q : Int) (l : List (Nat × Nat)), v5 = .int .i64 q ∧ wr.heap[W0.heap.size]? = some (.stringIter a0 pos) ∧ Aside0 (Below w.heap.size w wr) ∧ Aside0 (Text.Reach a0 pos l) ∧ a0.size ≤ pos + fuel ∧ 0 ≤ q ∧ q ≤ pos ∧ pos ≤ a0.size) (fun _ wr => a0.size - wr.iterPos W0.heap.size)
      case atStart => exact ⟨0, a0.size, 0, [], rfl, World.iter_heap W0 a0 0, ⟨HB.out.alloc HB.out.size _⟩, ⟨.zero⟩, by omega, by omega, by omega, by omega⟩
      case round =>
        have hW := HB.out.size
        clear HB
        obtain ⟨pos, fuel, q, l, rfl, hit, HB, HR, hfu, hq0, hq1, hps⟩ := hrel
        have hpos0 := iter_pos hit
        by_cases hp : pos < a0.size
        · have hnx : ∀ ty, (Instr.next (.pointer (some ⟨W0.heap.size, 0, none⟩)) true ty).run Try.prog wr = _ := fun ty => Lib.run_next_any_at wr W0.heap.size a0 pos ty hit hp
          have hwd := Text.width_pos a0 pos hp
          have hwl := Text.width_le a0 pos hp
          obtain ⟨fuel, rfl⟩ : ∃ f', fuel = f' + 1 := ⟨fuel - 1, by omega⟩
          have hit2 := Lib.iterAt_heap wr W0.heap.size a0 pos (pos + (Utf8.decode a0 pos).2) hit
          have HB2 := Aside0.mk (Lib.below_iterAt HB.out (k := W0.heap.size) hW a0 (pos + (Utf8.decode a0 pos).2))
          obtain ⟨W1, hW1⟩ : ∃ W1, W1 = wr.iterAt W0.heap.size a0 (pos + (Utf8.decode a0 pos).2) := ⟨_, rfl⟩
          rw [← hW1] at hnx hit2 HB2
          have HR2 := Aside0.mk (HR.out.next hp)
          clear hW1 hit HB
          by_cases hp0 : 0 < pos
          · have hk2 : decide ((0 : Int) < (pos : Int)) = true := decide_eq_true (by omega)
            have HP := Aside0.mk (Text.name_prefix HR.out hp0 HN.out)
            go_wp2_with (go_at_call 11; refine (name_any _ (by rw [ByteArray.size_extract]; omega) _).mono ?_; rw [HP.out]; rintro e w2 ⟨rfl, hb1⟩; have HB3 := Aside0.mk (below_then HB2.out HB2.out.size hb1); clear hb1)
            · go_ret
              exact ⟨rfl, HB3.out⟩
            · go_roundw
              case rel => exact ⟨_, fuel, q + 1, _, rfl, hit2, HB2, HR2, by omega, by omega, by omega, hwl⟩
              case measure => rw [hpos0, iter_pos hit2]; omega
          · have hk2 : decide ((0 : Int) < (pos : Int)) = false := decide_eq_false (by omega)
            go_wp2
            · go_roundw
              case rel => exact ⟨_, fuel, _, _, rfl, hit2, HB2, HR2, by omega, by omega, by omega, hwl⟩
              case measure => rw [hpos0, iter_pos hit2]; omega
            · go_roundw
              case rel => exact ⟨_, fuel, _, _, rfl, hit2, HB2, HR2, by omega, by omega, by omega, hwl⟩
              case measure => rw [hpos0, iter_pos hit2]; omega
        · have hnx : ∀ ty, (Instr.next (.pointer (some ⟨W0.heap.size, 0, none⟩)) true ty).run Try.prog wr = _ := fun ty => Lib.run_next_end_at wr W0.heap.size a0 pos ty hit hp
          go_wp2
          go_ret
          exact ⟨rfl, HB.out⟩
  · have hd3 : decide (3000 < (a0.size : Int)) = true := decide_eq_true (by omega)
    go_enter Try.func4, Try.ntmps4
    go_wp2_with (go_at_call 9; refine (awake_any _).mono ?_; rintro e w1 ⟨rfl, hb1⟩; have HB1 := Aside0.mk (below_then HB.out HB.out.size hb1); clear hb1 HB; have HB := HB1; clear HB1)
    go_ret
    exact ⟨rfl, HB.out⟩

def tracerylaw01_WordPrefix.Pure : Prop := ∀ (a0 : ByteArray) (a1 : Int), a0.size ≤ 140737488351232 → (Lit.int .u8 a1).wf = true → tracerylaw01_WordPrefix.f a0 a1 = some true
theorem tracerylaw01_WordPrefix.walk (P : tracerylaw01_WordPrefix.Pure) (a0 : ByteArray) (a1 : Int) (w : World) (w0 : a0.size ≤ 140737488351232) (w1 : (Lit.int .u8 a1).wf = true) :
    Calls Try.prog 4 #[.string a0, .int .u8 a1] w fun e w' => e = .returned (.bool true) ∧ Below w.heap.size w w' := by
  have h := P a0 a1 w0 w1
  refine (tracerylaw01_WordPrefix.calls a0 a1 true w h).mono ?_
  rintro e w' ⟨rfl, hd⟩
  exact ⟨rfl, hd⟩

end Go.Proofs.Ytdhnoclkepopgaa.PA
