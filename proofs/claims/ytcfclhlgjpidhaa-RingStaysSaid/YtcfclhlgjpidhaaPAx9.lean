-- Written by wip/tools/gprint.py of this repo (the kit's printer, some functions given).
import Derived.Test.YtcfclhlgjpidhaaPAx0
namespace Go.Proofs.Ytcfclhlgjpidhaa.PA
open Go.RowKit Go.Proofs.YtcfclhlgjpidhaaW.PrintWords Go.Proofs.YtcfclhlgjpidhaaW.PrintLast Go.Proofs.YtcfclhlgjpidhaaW.PrintMore
attribute [local go_sem] max2_int min2_int max_two min_two max_three min_three max_four min_four   -- for this text's walks alone
set_option linter.unusedVariables false
set_option linter.unusedSimpArgs false
set_option linter.unnecessarySimpa false

/-! ### slices_Min_int_int: function 34 -/
def minOf : List Int → Int
  | [] => 0
  | x :: t => t.foldl mn x
theorem minOf_snoc (l : List Int) (x : Int) (h : l ≠ []) : minOf (l ++ [x]) = mn (minOf l) x := by
  cases l with
  | nil => exact absurd rfl h
  | cons y t => simp [minOf, List.foldl_append]
theorem minOf_take (l : List Int) (k : Nat) (h0 : 0 < k) (h : k < l.length) : minOf (l.take (k + 1)) = mn (minOf (l.take k)) (rd l k) := by
  rw [List.take_succ_eq_append_getElem h, minOf_snoc _ _ (by intro e; have h2 := congrArg List.length e; rw [List.length_take] at h2; simp only [List.length_nil] at h2; omega)]
  congr 1
  simp [rd, List.getD_eq_getElem?_getD, h]
def slices_Min_int_int.f (l0 : List Int) : Option Int := if l0.length = 0 then none else some (minOf l0)
set_option maxHeartbeats 4000000 in
set_option maxRecDepth 100000 in
theorem slices_Min_int_int.calls (A0 : Option Addr) (c0 : Nat) (l0 : List Int) (r : Int) (w : World) (hr0 : Kd.C (Kd.int .i64) w A0 l0.length l0) (hc0 : l0.length ≤ c0) (h : slices_Min_int_int.f l0 = some r) :
    Calls Try.prog 34 #[.slice A0 l0.length c0] w fun e w' => e = .returned (.int .i64 r) ∧ Drawn0 w w' := by
  unfold slices_Min_int_int.f at h
  by_cases h0 : l0.length = 0
  · rw [if_pos h0] at h; cases h
  rw [if_neg h0] at h
  have HE := Aside0.mk (Option.some.inj h)
  clear h
  have HR := Aside0.mk hr0
  have hmx := hr0.2.1
  clear hr0
  obtain ⟨ad, had, hx0⟩ := Kd.at_int HR.out 0 (by omega) (by omega)
  cases had
  have hx0' : w.cell? ad = some (.int .i64 (rd l0 0)) := by
    have : ad.add (0 : Int).toNat = ad := by simp [Addr.add]
    rwa [this] at hx0
  clear hx0
  have hlt0 : decide ((l0.length : Int) < 1) = false := decide_eq_false (by omega)
  have hpos : 0 < l0.length := by omega
  have H1 : Aside0 (minOf (l0.take 1) = rd l0 0) := ⟨by
    cases l0 with
    | nil => simp at h0
    | cons y t => simp [minOf, rd]⟩
  clear h0
  go_enter Try.func34, Try.ntmps34
  go_wp2
  go_loop [3, 4] (fun v3 v4 => ∃ k : Nat, 1 ≤ k ∧ k ≤ l0.length ∧ v4 = .int .i64 k ∧ v3 = .int .i64 (minOf (l0.take k))) (fun _ v4 => l0.length - (intOf v4).toNat)
  case atStart => exact ⟨1, by omega, by omega, rfl, by rw [H1.out]⟩
  case round =>
    clear H1 hx0'
    obtain ⟨k, hk1, hk, rfl, rfl⟩ := hrel
    by_cases hlt : k < l0.length
    · obtain ⟨ad', had, hx⟩ := Kd.at_int HR.out (k : Int) (by omega) (by omega)
      cases had
      have HM := Aside0.mk (minOf_take l0 k (by omega) hlt)
      rw [Int.toNat_natCast] at hx
      go_wp2
      go_round
      case rel => exact ⟨k + 1, by omega, by omega, by go_num, by rw [HM.out]; rfl⟩
      case measure => simp [intOf]; omega
    · have hk2 : k = l0.length := by omega
      have HL : Aside0 (minOf (l0.take k) = r) := ⟨by rw [hk2, List.take_length]; exact HE.out⟩
      clear hk2
      go_wp2
      go_ret
      exact ⟨congrArg (fun x => Ending.returned (Value.int .i64 x)) HL.out, Drawn0.refl _⟩


end Go.Proofs.Ytcfclhlgjpidhaa.PA
