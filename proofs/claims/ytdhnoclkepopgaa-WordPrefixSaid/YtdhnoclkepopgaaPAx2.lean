-- Written by wip/tools/gprint.py of this repo (the kit's printer, some functions given).
import Derived.Test.YtdhnoclkepopgaaPAx0
namespace Go.Proofs.Ytdhnoclkepopgaa.PA
open Go.RowKit Go.Proofs.YtdhnoclkepopgaaW.PrintWords Go.Proofs.YtdhnoclkepopgaaW.PrintLast Go.Proofs.YtdhnoclkepopgaaW.PrintMore
attribute [local go_sem] max2_int min2_int max_two min_two max_three min_three max_four min_four   -- for this text's walks alone
set_option linter.unusedVariables false
set_option linter.unusedSimpArgs false
set_option linter.unnecessarySimpa false

/-! ### word_Split: function 10 -/
def splitGo (s : ByteArray) : List (Nat × Nat) → Int → List S26 → List S26
  | [], q, acc => if 0 ≤ q then acc ++ [⟨q, s.extract q.toNat s.size⟩] else acc
  | (p, r) :: l, q, acc =>
    if (r : Int) = 32 then (if 0 ≤ q then splitGo s l (-1) (acc ++ [⟨q, s.extract q.toNat p⟩]) else splitGo s l q acc)
    else (if q < 0 then splitGo s l p acc else splitGo s l q acc)
def split (s : ByteArray) : List S26 := splitGo s (Text.allRunes s) (-1) []
def word_Split.f (a0 : ByteArray) : Option (List S26) := if a0.size ≤ 2147483647 then some (split a0) else none
set_option maxHeartbeats 8000000 in
set_option maxRecDepth 100000 in
theorem word_Split.calls (a0 : ByteArray) (r : List S26) (w : World) (h : word_Split.f a0 = some r) :
    Calls Try.prog 10 #[.string a0] w fun e w' => ∃ v0_ : Value, e = .returned (v0_) ∧ Kd.R k26 26 w' w.heap.size (fun _ => True) v0_ r ∧ Below w.heap.size w w' := by
  unfold word_Split.f at h
  by_cases hsz : a0.size ≤ 2147483647
  rotate_left
  · rw [if_neg hsz] at h; cases h
  rw [if_pos hsz] at h
  have HR1 : Aside0 (splitGo a0 (Text.runes a0 a0.size 0) (-1) [] = r) := ⟨Option.some.inj h⟩
  clear h
  go_enter Try.func10, Try.ntmps10
  go_wp2
  go_loopw [3, 4] (fun v3 v4 wr => ∃ (pos fuel : Nat) (q : Int) (acc : List S26), v4 = .int .i64 q ∧ wr.heap[w.heap.size]? = some (.stringIter a0 pos) ∧ Aside0 (Below w.heap.size w wr) ∧ Aside0 (Kd.R k26 26 wr w.heap.size (fun j => w.heap.size + 1 ≤ j) v3 acc) ∧ Aside0 (splitGo a0 (Text.runes a0 fuel pos) q acc = r) ∧ a0.size ≤ pos + fuel ∧ acc.length ≤ pos ∧ -1 ≤ q ∧ q ≤ pos ∧ pos ≤ a0.size) (fun _ _ wr => a0.size - wr.iterPos w.heap.size)
  case atStart => exact ⟨0, a0.size, -1, [], rfl, World.iter_heap w a0 0, ⟨(Below.refl _ _).alloc (Nat.le_refl _) _⟩, ⟨Kd.R_nil _ _ _ _ _⟩, HR1, by omega, by simp, by omega, by omega, by omega⟩
  case round =>
    clear HR1
    obtain ⟨pos, fuel, q, acc, rfl, hit, HB, HO, HG, hfu, hal, hq0, hq1, hps⟩ := hrel
    have hpos0 := iter_pos hit
    by_cases hp : pos < a0.size
    · have hnx : ∀ ty, (Instr.next (.pointer (some ⟨w.heap.size, 0, none⟩)) true ty).run Try.prog wr = _ := fun ty => Lib.run_next_any_at wr w.heap.size a0 pos ty hit hp
      have hwd := Text.width_pos a0 pos hp
      obtain ⟨fuel, rfl⟩ : ∃ f', fuel = f' + 1 := ⟨fuel - 1, by omega⟩
      have hit2 := Lib.iterAt_heap wr w.heap.size a0 pos (pos + (Utf8.decode a0 pos).2) hit
      have HB2 := Aside0.mk (Lib.below_iterAt HB.out (k := w.heap.size) (Nat.le_refl _) a0 (pos + (Utf8.decode a0 pos).2))
      have HO2 := Aside0.mk (R_iterAt HO.out (k := w.heap.size) (fun j hj => by omega) a0 (pos + (Utf8.decode a0 pos).2))
      obtain ⟨W1, hW1⟩ : ∃ W1, W1 = wr.iterAt w.heap.size a0 (pos + (Utf8.decode a0 pos).2) := ⟨_, rfl⟩
      rw [← hW1] at hnx hit2 HB2 HO2
      have HG2 : Aside0 (splitGo a0 ((pos, (Utf8.decode a0 pos).1) :: Text.runes a0 fuel (pos + (Utf8.decode a0 pos).2)) q acc = r) := ⟨by rw [← Text.runes_next _ _ _ hp]; exact HG.out⟩
      clear HG hW1 hit HB HO
      have hsz1 : w.heap.size + 1 ≤ W1.heap.size := (Array.getElem?_eq_some_iff.1 hit2).1
      by_cases hr : ((Utf8.decode a0 pos).1 : Int) = 32
      · have hr1 : (((Utf8.decode a0 pos).1 : Int) == 32) = true := beq_iff_eq.2 hr
        have hr2 : (((Utf8.decode a0 pos).1 : Int) != 32) = false := by rw [hr]; rfl
        have HR := Aside0.mk hr
        clear hr
        by_cases hq : 0 ≤ q
        · obtain ⟨q, rfl⟩ := Int.eq_ofNat_of_zero_le hq
          have HG3 : Aside0 (splitGo a0 (Text.runes a0 fuel (pos + (Utf8.decode a0 pos).2)) (-1) (acc ++ [⟨q, a0.extract q pos⟩]) = r) := ⟨by
            have := HG2.out
            simp only [splitGo] at this
            rw [if_pos HR.out, if_pos hq] at this
            exact this⟩
          clear HG2
          go_wp2_with (first | ((with_reducible refine gate_builtin (b := .append) (xs := #[.tmp 20, .tmp 27]) rfl ?_); at_builtin; refine Kd.R_append k26 (w0 := w) w.heap.size rfl (.tmp 20) (.tmp 27) 23 26 (.agg #[(.int .i64 0), (.string ⟨#[]⟩)]) 24 rfl Try.underlying23 info26 rfl (by decide) (by omega) u3 acc (⟨(q : Int), a0.extract q pos⟩ : S26) [.int .i64 q, .string (a0.extract q pos)] (fun j => w.heap.size + 1 ≤ j) (fun _ => False) rfl rfl (k26_mkM _ _ _ (⟨(q : Int), a0.extract q pos⟩ : S26)) (fun _ hk => hk.elim) (fun j hj => Nat.le_trans hsz1 hj) HO2.out HB2.out (by omega) (by omega) ?_; intro v1 w1 ho hb hg hat; have HO3 := Aside0.mk ho; have HB3 := Aside0.mk hb; have HG4 := Aside0.mk hg; clear ho hb hg hat))
          all_goals (
            have hit3 : w1.heap[w.heap.size]? = some (.stringIter a0 (pos + (Utf8.decode a0 pos).2)) := by
              rw [HG4.out.block _ (by omega) (fun h => by have := HO2.out.1 _ h.symm; omega)]; exact hit2
            go_roundw
            case rel => exact ⟨_, fuel, -1, _, rfl, hit3, HB3, HO3, HG3, by omega, by simp; omega, by omega, by omega, Text.width_le a0 pos hp⟩
            case measure =>
              rw [hpos0, iter_pos hit3]
              omega)
        · have HG3 : Aside0 (splitGo a0 (Text.runes a0 fuel (pos + (Utf8.decode a0 pos).2)) q acc = r) := ⟨by
            have := HG2.out
            simp only [splitGo] at this
            rw [if_pos HR.out, if_neg hq] at this
            exact this⟩
          clear HG2
          go_wp2
          go_roundw
          case rel => exact ⟨_, fuel, q, acc, rfl, hit2, HB2, HO2, HG3, by omega, by omega, by omega, by omega, Text.width_le a0 pos hp⟩
          case measure =>
            rw [hpos0, iter_pos hit2]
            omega
      · have hr1 : (((Utf8.decode a0 pos).1 : Int) == 32) = false := beq_eq_false_iff_ne.2 hr
        have hr2 : (((Utf8.decode a0 pos).1 : Int) != 32) = true := bne_iff_ne.2 hr
        have HR := Aside0.mk hr
        clear hr
        by_cases hq : q < 0
        · have HG3 : Aside0 (splitGo a0 (Text.runes a0 fuel (pos + (Utf8.decode a0 pos).2)) pos acc = r) := ⟨by
            have := HG2.out
            simp only [splitGo] at this
            rw [if_neg HR.out, if_pos hq] at this
            exact this⟩
          clear HG2
          go_wp2
          go_roundw
          case rel => exact ⟨_, fuel, pos, acc, rfl, hit2, HB2, HO2, HG3, by omega, by omega, by omega, by omega, Text.width_le a0 pos hp⟩
          case measure =>
            rw [hpos0, iter_pos hit2]
            omega
        · have HG3 : Aside0 (splitGo a0 (Text.runes a0 fuel (pos + (Utf8.decode a0 pos).2)) q acc = r) := ⟨by
            have := HG2.out
            simp only [splitGo] at this
            rw [if_neg HR.out, if_neg hq] at this
            exact this⟩
          clear HG2
          go_wp2
          go_roundw
          case rel => exact ⟨_, fuel, q, acc, rfl, hit2, HB2, HO2, HG3, by omega, by omega, by omega, by omega, Text.width_le a0 pos hp⟩
          case measure =>
            rw [hpos0, iter_pos hit2]
            omega
    · have hnx : ∀ ty, (Instr.next (.pointer (some ⟨w.heap.size, 0, none⟩)) true ty).run Try.prog wr = _ := fun ty => Lib.run_next_end_at wr w.heap.size a0 pos ty hit hp
      have hsz1 : w.heap.size + 1 ≤ wr.heap.size := (Array.getElem?_eq_some_iff.1 hit).1
      rw [Text.runes_end _ _ _ hp] at HG
      by_cases hq : 0 ≤ q
      · obtain ⟨q, rfl⟩ := Int.eq_ofNat_of_zero_le hq
        have HR2 : Aside0 (acc ++ [⟨(q : Int), a0.extract q a0.size⟩] = r) := ⟨by
          have := HG.out
          simp only [splitGo] at this
          rw [if_pos hq] at this
          exact this⟩
        clear HG
        go_wp2_with (first | ((with_reducible refine gate_builtin (b := .append) (xs := #[.tmp 39, .tmp 45]) rfl ?_); at_builtin; refine Kd.R_append k26 (w0 := w) w.heap.size rfl (.tmp 39) (.tmp 45) 23 26 (.agg #[(.int .i64 0), (.string ⟨#[]⟩)]) 24 rfl Try.underlying23 info26 rfl (by decide) (by omega) u3 acc (⟨(q : Int), a0.extract q a0.size⟩ : S26) [.int .i64 q, .string (a0.extract q a0.size)] (fun j => w.heap.size + 1 ≤ j) (fun _ => False) rfl rfl (k26_mkM _ _ _ (⟨(q : Int), a0.extract q a0.size⟩ : S26)) (fun _ hk => hk.elim) (fun j hj => Nat.le_trans hsz1 hj) HO.out HB.out (by omega) (by omega) ?_; intro v1 w1 ho hb hg hat; have HO3 := Aside0.mk ho; have HB3 := Aside0.mk hb; clear ho hb hg hat))
        all_goals (
          go_ret
          exact ⟨_, rfl, by rw [← HR2.out]; exact Kd.R_mono HO3.out (fun _ _ => trivial), HB3.out⟩)
      · have HR2 : Aside0 (acc = r) := ⟨by
          have := HG.out
          simp only [splitGo] at this
          rw [if_neg hq] at this
          exact this⟩
        clear HG
        go_wp2
        go_ret
        exact ⟨_, rfl, by rw [← HR2.out]; exact Kd.R_mono HO.out (fun _ _ => trivial), HB.out⟩


end Go.Proofs.Ytdhnoclkepopgaa.PA
