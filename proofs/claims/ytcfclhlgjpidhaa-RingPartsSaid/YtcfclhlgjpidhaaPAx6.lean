-- Written by wip/tools/gprint.py of this repo (the kit's printer, some functions given).
import Derived.Test.YtcfclhlgjpidhaaPAx0
import Derived.Test.YtcfclhlgjpidhaaPAx3
import Derived.Test.YtcfclhlgjpidhaaPAx4
import Derived.Test.YtcfclhlgjpidhaaPAx5
namespace Go.Proofs.Ytcfclhlgjpidhaa.PA
open Go.RowKit Go.Proofs.YtcfclhlgjpidhaaW.PrintWords Go.Proofs.YtcfclhlgjpidhaaW.PrintLast Go.Proofs.YtcfclhlgjpidhaaW.PrintMore
attribute [local go_sem] max2_int min2_int max_two min_two max_three min_three max_four min_four   -- for this text's walks alone
set_option linter.unusedVariables false
set_option linter.unusedSimpArgs false
set_option linter.unnecessarySimpa false

/-! ### ring_Labels: function 9 -/
theorem slices_Clone_R (A0 : Option Addr) (c0 : Nat) (l0 : List Int) (w : World) (hl : l0.length ≤ 1000000) (hr0 : Kd.C (Kd.int .i64) w A0 l0.length l0) (hc0 : l0.length ≤ c0) :
    Calls Try.prog 27 #[.slice A0 l0.length c0] w fun e w' => ∃ v0_ : Value, e = .returned (v0_) ∧ Kd.R (Kd.int .i64) 3 w' w.heap.size (fun _ => True) v0_ l0 ∧ Below w.heap.size w w' :=
  slices_Clone_int_int.calls A0 c0 l0 l0 w hr0 hc0 (by unfold slices_Clone_int_int.f; rw [if_pos (by omega)])
theorem right_any (A0 : Option Addr) (c0 : Nat) (l0 : List Int) (w : World) (hl : l0.length ≤ 1000000) (hr0 : Kd.C (Kd.int .i64) w A0 l0.length l0) (hc0 : l0.length ≤ c0) :
    Calls Try.prog 12 #[.slice A0 l0.length c0] w fun e w' => ∃ n, e = .returned (.bool (nodupB l0)) ∧ w' = w.drewN n := by
  obtain ⟨k, hk⟩ := (right_ev l0 (by omega)).rounds
  exact (ring_Right.calls k A0 c0 l0 _ w hr0 hc0 hk).mono fun _ _ ⟨he, hd⟩ => ⟨hd.out.choose, he, hd.out.choose_spec⟩
/-- Stretches of one number taken as one, around the end, too. -/
def labL (l : List Int) : List Int := if 1 < (Lib.compact l).length ∧ rd (Lib.compact l) 0 = rd (Lib.compact l) (((Lib.compact l).length : Int) - 1) then (Lib.compact l).take ((Lib.compact l).length - 1) else Lib.compact l
def ring_Labels.f (l0 : List Int) : Option (List Int × Bool) := if l0.length ≤ 1000000 then some (if nodupB (labL l0) = true then (labL l0, true) else ([], false)) else none
set_option maxHeartbeats 4000000 in
set_option maxRecDepth 100000 in
theorem ring_Labels.calls (A0 : Option Addr) (c0 : Nat) (l0 : List Int) (r1 : List Int) (r2 : Bool) (w : World) (hr0 : Kd.C (Kd.int .i64) w A0 l0.length l0) (hc0 : l0.length ≤ c0) (h : ring_Labels.f l0 = some (r1, r2)) :
    Calls Try.prog 9 #[.slice A0 l0.length c0] w fun e w' => ∃ v0_ : Value, e = .returned (.tuple #[v0_, .bool r2]) ∧ Kd.R (Kd.int .i64) 3 w' w.heap.size (fun _ => True) v0_ r1 ∧ Below w.heap.size w w' := by
  unfold ring_Labels.f at h
  by_cases hsz : l0.length ≤ 1000000
  rotate_left
  · rw [if_neg hsz] at h; cases h
  rw [if_pos hsz] at h
  have HE := Aside0.mk (Option.some.inj h)
  clear h
  have HR := Aside0.mk hr0
  clear hr0
  obtain ⟨m, hm⟩ : ∃ m, m = Lib.compact l0 := ⟨_, rfl⟩
  have hml : m.length ≤ 1000000 := by rw [hm]; have := compact_le l0; omega
  have HM := Aside0.mk hm
  have HL : Aside0 (labL l0 = if 1 < m.length ∧ rd m 0 = rd m ((m.length : Int) - 1) then m.take (m.length - 1) else m) := ⟨by unfold labL; rw [hm]⟩
  clear hm
  go_enter Try.func9, Try.ntmps9
  go_wp2_with fail
  refine (slices_Clone_R A0 c0 l0 w hsz HR.out hc0).mono ?_
  rintro e w1 ⟨v1, rfl, ho1, hb1⟩
  go_wp2_with fail
  refine (compact_R 3 w.heap.size rfl (fun _ => True) v1 l0 w1 w ho1 hb1).mono ?_
  rintro e w2 ⟨v2, rfl, ho2, hb2, _, _, _⟩
  rw [← HM.out] at ho2
  clear ho1 hb1
  obtain ⟨A, c, rfl, hc, hC⟩ := Kd.R_reads ho2
  have HO := Aside0.mk ho2
  have HB := Aside0.mk hb2
  have HC := Aside0.mk hC
  clear ho2 hb2 hC
  by_cases h1 : 1 < m.length
  · have hd1 : decide ((1 : Int) < (m.length : Int)) = true := decide_eq_true (by omega)
    obtain ⟨ad, had, hx0⟩ := Kd.at_int HC.out 0 (by omega) (by omega)
    cases had
    have hx0' : w2.cell? ad = some (.int .i64 (rd m 0)) := by
      have : ad.add (0 : Int).toNat = ad := by simp [Addr.add]
      rwa [this] at hx0
    clear hx0
    obtain ⟨ad', had, hx1⟩ := Kd.at_int HC.out ((m.length : Int) - 1) (by omega) (by omega)
    cases had
    have hpos : 0 < m.length := by omega
    have hi0 : (1 : Int) ≤ (m.length : Int) := by omega
    rw [show ((m.length : Int) - 1).toNat = m.length - 1 by omega] at hx1
    have hi1 : (0 : Int) ≤ (m.length : Int) - 1 := by omega
    have hi2 : (m.length : Int) - 1 < (m.length : Int) := by omega
    have hw1 : IntKind.i64.wrap ((m.length : Int) - 1) = (m.length : Int) - 1 := by rw [IntKind.wrap_i64]; omega
    obtain ⟨W2, hW2⟩ : ∃ W2, W2 = w2 := ⟨_, rfl⟩
    subst hW2
    clear HC HM
    by_cases heq : rd m 0 = rd m ((m.length : Int) - 1)
    · have hq : (rd m 0 == rd m ((m.length : Int) - 1)) = true := beq_iff_eq.2 heq
      have HRT : Aside0 (∀ n, Calls Try.prog 12 #[.slice (some ad) (m.length - 1) c] (W2.drewN n) fun e w' => ∃ n, e = .returned (.bool (nodupB (m.take (m.length - 1)))) ∧ w' = W2.drewN n) := ⟨by
        intro n
        have hC := Kd.C_take (Kd.R_reads' (Kd.R_drewN HO.out n)).2.2 (m := m.length - 1) (by omega)
        have := right_any (some ad) c (m.take (m.length - 1)) (W2.drewN n) (by rw [List.length_take]; omega) hC (by rw [List.length_take]; omega)
        rw [List.length_take, Nat.min_eq_left (by omega)] at this
        exact this.mono fun _ _ ⟨q, h1, h2⟩ => ⟨n + q, h1, by rw [h2, World.drewN_drewN]⟩⟩
      have HL2 : Aside0 (labL l0 = m.take (m.length - 1)) := ⟨by rw [HL.out, if_pos ⟨h1, heq⟩]⟩
      clear HL heq
      rw [HL2.out] at HE
      have HT := Aside0.mk (Kd.R_take HO.out (m := m.length - 1) (by omega))
      obtain ⟨b, hb⟩ : ∃ b, b = nodupB (m.take (m.length - 1)) := ⟨_, rfl⟩
      rw [← hb] at HRT HE
      clear hb
      go_wp2
      refine start_ (n := 13) (S := fun w' => w'.cell? ad = some (.int .i64 (rd m 0)) ∧ w'.cell? (ad.add (m.length - 1)) = some (.int .i64 (rd m ((m.length : Int) - 1)))) (ds := []) #[false, false, false, false, false, false, false, false, false, false, false, false, false] (by kernel_rfl) rfl rfl ⟨hx0', hx1⟩ (fun hHeld => ?_)
      refine pure_ (i := 0) (N := some 11) (v := ?_) (a' := ?_) #[true, false, false, false, false, false, false, false, false, false, false, false, false] rfl rfl (by kernel_rfl) (fun _ _ _ h => h) (Or.inl ⟨by rfl, ?_⟩) ?_ ?_
      rotate_left
      · intro w'
        go_simp
        with_reducible rfl
      rotate_left
      · simp only [Act.put, List.setIfInBounds_toArray, List.set_cons_zero, List.set_cons_succ, i64_w, i32_w]
        rfl
      refine pure_ (i := 1) (N := some 12) (v := ?_) (a' := ?_) #[true, true, false, false, false, false, false, false, false, false, false, false, false] rfl rfl (by kernel_rfl) (fun _ _ _ h => h) (Or.inl ⟨by rfl, ?_⟩) ?_ ?_
      rotate_left
      · intro w'
        go_simp
        with_reducible rfl
      rotate_left
      · simp only [Act.put, List.setIfInBounds_toArray, List.set_cons_zero, List.set_cons_succ, i64_w, i32_w]
        rfl
      refine pure_ (i := 2) (N := some 13) (v := ?_) (a' := ?_) #[true, true, true, false, false, false, false, false, false, false, false, false, false] rfl rfl (by kernel_rfl) (fun _ _ _ h => h) (Or.inl ⟨by rfl, ?_⟩) ?_ ?_
      rotate_left
      · intro w'
        go_simp
        with_reducible rfl
      rotate_left
      · simp only [Act.put, List.setIfInBounds_toArray, List.set_cons_zero, List.set_cons_succ, i64_w, i32_w]
        rfl
      refine pure_ (i := 3) (N := some 14) (v := ?_) (a' := ?_) #[true, true, true, true, false, false, false, false, false, false, false, false, false] rfl rfl (by kernel_rfl) (fun _ _ _ h => h) (Or.inl ⟨by rfl, ?_⟩) ?_ ?_
      rotate_left
      · intro w'
        go_simp
        with_reducible rfl
      rotate_left
      · simp only [Act.put, List.setIfInBounds_toArray, List.set_cons_zero, List.set_cons_succ, i64_w, i32_w]
        rfl
      refine pure_ (i := 4) (N := some 15) (v := ?_) (a' := ?_) #[true, true, true, true, true, false, false, false, false, false, false, false, false] rfl rfl (by kernel_rfl) (fun _ _ _ h => h) (Or.inl ⟨by rfl, ?_⟩) ?_ ?_
      rotate_left
      · intro w'
        go_simp
        with_reducible rfl
      rotate_left
      · simp only [Act.put, List.setIfInBounds_toArray, List.set_cons_zero, List.set_cons_succ, i64_w, i32_w]
        rfl
      refine pure_ (i := 6) (N := some 17) (v := ?_) (a' := ?_) #[true, true, true, true, true, false, true, false, false, false, false, false, false] rfl rfl (by kernel_rfl) (fun _ _ _ h => h) (Or.inl ⟨by rfl, ?_⟩) ?_ ?_
      rotate_left
      · intro w'
        go_simp
        with_reducible rfl
      rotate_left
      · simp only [Act.put, List.setIfInBounds_toArray, List.set_cons_zero, List.set_cons_succ, i64_w, i32_w]
        rfl
      refine pure_ (i := 7) (N := some 18) (v := ?_) (a' := ?_) #[true, true, true, true, true, false, true, true, false, false, false, false, false] rfl rfl (by kernel_rfl) (fun _ _ _ h => h) (Or.inl ⟨by rfl, ?_⟩) ?_ ?_
      rotate_left
      · intro w'
        go_simp
        with_reducible rfl
      rotate_left
      · simp only [Act.put, List.setIfInBounds_toArray, List.set_cons_zero, List.set_cons_succ, i64_w, i32_w]
        rfl
      refine pure_ (i := 8) (N := some 19) (v := ?_) (a' := ?_) #[true, true, true, true, true, false, true, true, true, false, false, false, false] rfl rfl (by kernel_rfl) (fun _ _ _ h => h) (Or.inl ⟨by rfl, ?_⟩) ?_ ?_
      rotate_left
      · intro w'
        go_simp
        with_reducible rfl
      rotate_left
      · simp only [Act.put, List.setIfInBounds_toArray, List.set_cons_zero, List.set_cons_succ, i64_w, i32_w]
        rfl
      refine pure_ (i := 9) (N := some 20) (v := ?_) (a' := ?_) #[true, true, true, true, true, false, true, true, true, true, false, false, false] rfl rfl (by kernel_rfl) (fun _ _ _ h => h) (Or.inl ⟨by rfl, ?_⟩) ?_ ?_
      rotate_left
      · intro w'
        go_simp
        with_reducible rfl
      rotate_left
      · simp only [Act.put, List.setIfInBounds_toArray, List.set_cons_zero, List.set_cons_succ, i64_w, i32_w]
        rfl
      refine take_ (i := 5) (N := some 16) (v := ?_) (a' := ?_) #[true, true, true, true, true, true, true, true, true, true, false, false, false] rfl rfl (by kernel_rfl) (fun _ _ _ h => h) (Or.inl ⟨by rfl, ?_⟩) hHeld ?_ ?_
      rotate_left
      · rintro w' ⟨s0, s1⟩
        go_simp
        with_reducible rfl
      rotate_left
      · simp only [Act.put, List.setIfInBounds_toArray, List.set_cons_zero, List.set_cons_succ, i64_w, i32_w]
        rfl
      refine take_ (i := 10) (N := some 21) (v := ?_) (a' := ?_) #[true, true, true, true, true, true, true, true, true, true, true, false, false] rfl rfl (by kernel_rfl) (fun _ _ _ h => h) (Or.inl ⟨by rfl, ?_⟩) hHeld ?_ ?_
      rotate_left
      · rintro w' ⟨s0, s1⟩
        go_simp
        with_reducible rfl
      rotate_left
      · simp only [Act.put, List.setIfInBounds_toArray, List.set_cons_zero, List.set_cons_succ, i64_w, i32_w]
        rfl
      refine pure_ (i := 11) (N := some 22) (v := ?_) (a' := ?_) #[true, true, true, true, true, true, true, true, true, true, true, true, false] rfl rfl (by kernel_rfl) (fun _ _ _ h => h) (Or.inl ⟨by rfl, ?_⟩) ?_ ?_
      rotate_left
      · intro w'
        go_simp
        with_reducible rfl
      rotate_left
      · simp only [Act.put, List.setIfInBounds_toArray, List.set_cons_zero, List.set_cons_succ, i64_w, i32_w]
        rfl
      refine pure_ (i := 12) (N := some 23) (v := ?_) (a' := ?_) #[true, true, true, true, true, true, true, true, true, true, true, true, true] rfl rfl (by kernel_rfl) (fun _ _ _ h => h) (Or.inl ⟨by rfl, ?_⟩) ?_ ?_
      rotate_left
      · intro w'
        go_simp
        with_reducible rfl
      rotate_left
      · simp only [Act.put, List.setIfInBounds_toArray, List.set_cons_zero, List.set_cons_succ, i64_w, i32_w]
        rfl
      refine done_ (by kernel_rfl) ?_
      go_wp2_with fail
      refine (HRT.out 1).mono ?_
      rintro e w3 ⟨q, rfl, rfl⟩
      cases b with
      | true =>
        go_wp2
        refine bodyPost_ret (v := .tuple #[.slice (some ad) (m.length - 1) c, .bool true]) (by simp [results, Try.results9, go_sem]) rfl ?_
        have := HE.out
        simp only [if_true, Prod.mk.injEq] at this
        obtain ⟨rfl, rfl⟩ := this
        exact ⟨_, rfl, Kd.R_drewN HT.out q, pw_below_drewN HB.out q⟩
      | false =>
        go_wp2
        go_ret2
        have := HE.out
        simp only [Bool.false_eq_true, if_false, Prod.mk.injEq] at this
        obtain ⟨rfl, rfl⟩ := this
        exact ⟨_, rfl, Kd.R_nil _ _ _ _ _, pw_below_drewN HB.out q⟩
    · have hq : (rd m 0 == rd m ((m.length : Int) - 1)) = false := beq_eq_false_iff_ne.2 heq
      have HL2 : Aside0 (labL l0 = m) := ⟨by rw [HL.out, if_neg (fun h => heq h.2)]⟩
      clear HL heq
      rw [HL2.out] at HE
      have HRT : Aside0 (∀ n, Calls Try.prog 12 #[.slice (some ad) m.length c] (W2.drewN n) fun e w' => ∃ n, e = .returned (.bool (nodupB m)) ∧ w' = W2.drewN n) := ⟨by
        intro n
        have := right_any (some ad) c m (W2.drewN n) (by omega) (Kd.R_reads' (Kd.R_drewN HO.out n)).2.2 (by omega)
        exact this.mono fun _ _ ⟨q, h1, h2⟩ => ⟨n + q, h1, by rw [h2, World.drewN_drewN]⟩⟩
      obtain ⟨b, hb⟩ : ∃ b, b = nodupB m := ⟨_, rfl⟩
      rw [← hb] at HRT HE
      clear hb
      go_wp2
      refine start_ (n := 13) (S := fun w' => w'.cell? ad = some (.int .i64 (rd m 0)) ∧ w'.cell? (ad.add (m.length - 1)) = some (.int .i64 (rd m ((m.length : Int) - 1)))) (ds := []) #[false, false, false, false, false, false, false, false, false, false, false, false, false] (by kernel_rfl) rfl rfl ⟨hx0', hx1⟩ (fun hHeld => ?_)
      refine pure_ (i := 0) (N := some 11) (v := ?_) (a' := ?_) #[true, false, false, false, false, false, false, false, false, false, false, false, false] rfl rfl (by kernel_rfl) (fun _ _ _ h => h) (Or.inl ⟨by rfl, ?_⟩) ?_ ?_
      rotate_left
      · intro w'
        go_simp
        with_reducible rfl
      rotate_left
      · simp only [Act.put, List.setIfInBounds_toArray, List.set_cons_zero, List.set_cons_succ, i64_w, i32_w]
        rfl
      refine pure_ (i := 1) (N := some 12) (v := ?_) (a' := ?_) #[true, true, false, false, false, false, false, false, false, false, false, false, false] rfl rfl (by kernel_rfl) (fun _ _ _ h => h) (Or.inl ⟨by rfl, ?_⟩) ?_ ?_
      rotate_left
      · intro w'
        go_simp
        with_reducible rfl
      rotate_left
      · simp only [Act.put, List.setIfInBounds_toArray, List.set_cons_zero, List.set_cons_succ, i64_w, i32_w]
        rfl
      refine pure_ (i := 2) (N := some 13) (v := ?_) (a' := ?_) #[true, true, true, false, false, false, false, false, false, false, false, false, false] rfl rfl (by kernel_rfl) (fun _ _ _ h => h) (Or.inl ⟨by rfl, ?_⟩) ?_ ?_
      rotate_left
      · intro w'
        go_simp
        with_reducible rfl
      rotate_left
      · simp only [Act.put, List.setIfInBounds_toArray, List.set_cons_zero, List.set_cons_succ, i64_w, i32_w]
        rfl
      refine pure_ (i := 3) (N := some 14) (v := ?_) (a' := ?_) #[true, true, true, true, false, false, false, false, false, false, false, false, false] rfl rfl (by kernel_rfl) (fun _ _ _ h => h) (Or.inl ⟨by rfl, ?_⟩) ?_ ?_
      rotate_left
      · intro w'
        go_simp
        with_reducible rfl
      rotate_left
      · simp only [Act.put, List.setIfInBounds_toArray, List.set_cons_zero, List.set_cons_succ, i64_w, i32_w]
        rfl
      refine pure_ (i := 4) (N := some 15) (v := ?_) (a' := ?_) #[true, true, true, true, true, false, false, false, false, false, false, false, false] rfl rfl (by kernel_rfl) (fun _ _ _ h => h) (Or.inl ⟨by rfl, ?_⟩) ?_ ?_
      rotate_left
      · intro w'
        go_simp
        with_reducible rfl
      rotate_left
      · simp only [Act.put, List.setIfInBounds_toArray, List.set_cons_zero, List.set_cons_succ, i64_w, i32_w]
        rfl
      refine pure_ (i := 6) (N := some 17) (v := ?_) (a' := ?_) #[true, true, true, true, true, false, true, false, false, false, false, false, false] rfl rfl (by kernel_rfl) (fun _ _ _ h => h) (Or.inl ⟨by rfl, ?_⟩) ?_ ?_
      rotate_left
      · intro w'
        go_simp
        with_reducible rfl
      rotate_left
      · simp only [Act.put, List.setIfInBounds_toArray, List.set_cons_zero, List.set_cons_succ, i64_w, i32_w]
        rfl
      refine pure_ (i := 7) (N := some 18) (v := ?_) (a' := ?_) #[true, true, true, true, true, false, true, true, false, false, false, false, false] rfl rfl (by kernel_rfl) (fun _ _ _ h => h) (Or.inl ⟨by rfl, ?_⟩) ?_ ?_
      rotate_left
      · intro w'
        go_simp
        with_reducible rfl
      rotate_left
      · simp only [Act.put, List.setIfInBounds_toArray, List.set_cons_zero, List.set_cons_succ, i64_w, i32_w]
        rfl
      refine pure_ (i := 8) (N := some 19) (v := ?_) (a' := ?_) #[true, true, true, true, true, false, true, true, true, false, false, false, false] rfl rfl (by kernel_rfl) (fun _ _ _ h => h) (Or.inl ⟨by rfl, ?_⟩) ?_ ?_
      rotate_left
      · intro w'
        go_simp
        with_reducible rfl
      rotate_left
      · simp only [Act.put, List.setIfInBounds_toArray, List.set_cons_zero, List.set_cons_succ, i64_w, i32_w]
        rfl
      refine pure_ (i := 9) (N := some 20) (v := ?_) (a' := ?_) #[true, true, true, true, true, false, true, true, true, true, false, false, false] rfl rfl (by kernel_rfl) (fun _ _ _ h => h) (Or.inl ⟨by rfl, ?_⟩) ?_ ?_
      rotate_left
      · intro w'
        go_simp
        with_reducible rfl
      rotate_left
      · simp only [Act.put, List.setIfInBounds_toArray, List.set_cons_zero, List.set_cons_succ, i64_w, i32_w]
        rfl
      refine take_ (i := 5) (N := some 16) (v := ?_) (a' := ?_) #[true, true, true, true, true, true, true, true, true, true, false, false, false] rfl rfl (by kernel_rfl) (fun _ _ _ h => h) (Or.inl ⟨by rfl, ?_⟩) hHeld ?_ ?_
      rotate_left
      · rintro w' ⟨s0, s1⟩
        go_simp
        with_reducible rfl
      rotate_left
      · simp only [Act.put, List.setIfInBounds_toArray, List.set_cons_zero, List.set_cons_succ, i64_w, i32_w]
        rfl
      refine take_ (i := 10) (N := some 21) (v := ?_) (a' := ?_) #[true, true, true, true, true, true, true, true, true, true, true, false, false] rfl rfl (by kernel_rfl) (fun _ _ _ h => h) (Or.inl ⟨by rfl, ?_⟩) hHeld ?_ ?_
      rotate_left
      · rintro w' ⟨s0, s1⟩
        go_simp
        with_reducible rfl
      rotate_left
      · simp only [Act.put, List.setIfInBounds_toArray, List.set_cons_zero, List.set_cons_succ, i64_w, i32_w]
        rfl
      refine pure_ (i := 11) (N := some 22) (v := ?_) (a' := ?_) #[true, true, true, true, true, true, true, true, true, true, true, true, false] rfl rfl (by kernel_rfl) (fun _ _ _ h => h) (Or.inl ⟨by rfl, ?_⟩) ?_ ?_
      rotate_left
      · intro w'
        go_simp
        with_reducible rfl
      rotate_left
      · simp only [Act.put, List.setIfInBounds_toArray, List.set_cons_zero, List.set_cons_succ, i64_w, i32_w]
        rfl
      refine pure_ (i := 12) (N := some 23) (v := ?_) (a' := ?_) #[true, true, true, true, true, true, true, true, true, true, true, true, true] rfl rfl (by kernel_rfl) (fun _ _ _ h => h) (Or.inl ⟨by rfl, ?_⟩) ?_ ?_
      rotate_left
      · intro w'
        go_simp
        with_reducible rfl
      rotate_left
      · simp only [Act.put, List.setIfInBounds_toArray, List.set_cons_zero, List.set_cons_succ, i64_w, i32_w]
        rfl
      refine done_ (by kernel_rfl) ?_
      go_wp2_with fail
      refine (HRT.out 1).mono ?_
      rintro e w3 ⟨q, rfl, rfl⟩
      cases b with
      | true =>
        go_wp2
        refine bodyPost_ret (v := .tuple #[.slice (some ad) m.length c, .bool true]) (by simp [results, Try.results9, go_sem]) rfl ?_
        have := HE.out
        simp only [if_true, Prod.mk.injEq] at this
        obtain ⟨rfl, rfl⟩ := this
        exact ⟨_, rfl, Kd.R_drewN HO.out q, pw_below_drewN HB.out q⟩
      | false =>
        go_wp2
        go_ret2
        have := HE.out
        simp only [Bool.false_eq_true, if_false, Prod.mk.injEq] at this
        obtain ⟨rfl, rfl⟩ := this
        exact ⟨_, rfl, Kd.R_nil _ _ _ _ _, pw_below_drewN HB.out q⟩
  · have hd1 : decide ((1 : Int) < (m.length : Int)) = false := decide_eq_false (by omega)
    obtain ⟨W2, hW2⟩ : ∃ W2, W2 = w2 := ⟨_, rfl⟩
    subst hW2
    have HL2 : Aside0 (labL l0 = m) := ⟨by rw [HL.out, if_neg (fun h => h1 h.1)]⟩
    clear HL HC HM
    rw [HL2.out] at HE
    have HRT : Aside0 (∀ n, Calls Try.prog 12 #[.slice A m.length c] (W2.drewN n) fun e w' => ∃ n, e = .returned (.bool (nodupB m)) ∧ w' = W2.drewN n) := ⟨by
      intro n
      have := right_any A c m (W2.drewN n) (by omega) (Kd.R_reads' (Kd.R_drewN HO.out n)).2.2 (by omega)
      exact this.mono fun _ _ ⟨q, h1, h2⟩ => ⟨n + q, h1, by rw [h2, World.drewN_drewN]⟩⟩
    obtain ⟨b, hb⟩ : ∃ b, b = nodupB m := ⟨_, rfl⟩
    rw [← hb] at HRT HE
    clear hb
    go_wp2
    refine start_ (n := 13) (S := fun w' => True) (ds := []) #[false, false, false, false, false, false, false, false, false, false, false, false, false] (by kernel_rfl) rfl rfl trivial (fun hHeld => ?_)
    refine pure_ (i := 0) (N := some 11) (v := ?_) (a' := ?_) #[true, false, false, false, false, false, false, false, false, false, false, false, false] rfl rfl (by kernel_rfl) (fun _ _ _ h => h) (Or.inl ⟨by rfl, ?_⟩) ?_ ?_
    rotate_left
    · intro w'
      go_simp
      with_reducible rfl
    rotate_left
    · simp only [Act.put, List.setIfInBounds_toArray, List.set_cons_zero, List.set_cons_succ, i64_w, i32_w]
      rfl
    refine pure_ (i := 1) (N := some 12) (v := ?_) (a' := ?_) #[true, true, false, false, false, false, false, false, false, false, false, false, false] rfl rfl (by kernel_rfl) (fun _ _ _ h => h) (Or.inl ⟨by rfl, ?_⟩) ?_ ?_
    rotate_left
    · intro w'
      go_simp
      with_reducible rfl
    rotate_left
    · simp only [Act.put, List.setIfInBounds_toArray, List.set_cons_zero, List.set_cons_succ, i64_w, i32_w]
      rfl
    refine pure_ (i := 2) (N := some 13) (v := ?_) (a' := ?_) #[true, true, true, false, false, false, false, false, false, false, false, false, false] rfl rfl (by kernel_rfl) (fun _ _ _ h => h) (Or.inl ⟨by rfl, ?_⟩) ?_ ?_
    rotate_left
    · intro w'
      go_simp
      with_reducible rfl
    rotate_left
    · simp only [Act.put, List.setIfInBounds_toArray, List.set_cons_zero, List.set_cons_succ, i64_w, i32_w]
      rfl
    refine pure_ (i := 3) (N := some 14) (v := undef) (a' := ?_) #[true, true, true, true, false, false, false, false, false, false, false, false, false] rfl rfl (by kernel_rfl) (fun _ _ _ h => h) (Or.inr ⟨by rfl, rfl⟩) ?_ ?_
    rotate_left
    · simp only [Act.put, List.setIfInBounds_toArray, List.set_cons_zero, List.set_cons_succ, i64_w, i32_w]
      rfl
    refine pure_ (i := 4) (N := some 15) (v := undef) (a' := ?_) #[true, true, true, true, true, false, false, false, false, false, false, false, false] rfl rfl (by kernel_rfl) (fun _ _ _ h => h) (Or.inr ⟨by rfl, rfl⟩) ?_ ?_
    rotate_left
    · simp only [Act.put, List.setIfInBounds_toArray, List.set_cons_zero, List.set_cons_succ, i64_w, i32_w]
      rfl
    refine pure_ (i := 5) (N := some 16) (v := undef) (a' := ?_) #[true, true, true, true, true, true, false, false, false, false, false, false, false] rfl rfl (by kernel_rfl) (fun _ _ _ h => h) (Or.inr ⟨by rfl, rfl⟩) ?_ ?_
    rotate_left
    · simp only [Act.put, List.setIfInBounds_toArray, List.set_cons_zero, List.set_cons_succ, i64_w, i32_w]
      rfl
    refine pure_ (i := 6) (N := some 17) (v := undef) (a' := ?_) #[true, true, true, true, true, true, true, false, false, false, false, false, false] rfl rfl (by kernel_rfl) (fun _ _ _ h => h) (Or.inr ⟨by rfl, rfl⟩) ?_ ?_
    rotate_left
    · simp only [Act.put, List.setIfInBounds_toArray, List.set_cons_zero, List.set_cons_succ, i64_w, i32_w]
      rfl
    refine pure_ (i := 7) (N := some 18) (v := undef) (a' := ?_) #[true, true, true, true, true, true, true, true, false, false, false, false, false] rfl rfl (by kernel_rfl) (fun _ _ _ h => h) (Or.inr ⟨by rfl, rfl⟩) ?_ ?_
    rotate_left
    · simp only [Act.put, List.setIfInBounds_toArray, List.set_cons_zero, List.set_cons_succ, i64_w, i32_w]
      rfl
    refine pure_ (i := 8) (N := some 19) (v := undef) (a' := ?_) #[true, true, true, true, true, true, true, true, true, false, false, false, false] rfl rfl (by kernel_rfl) (fun _ _ _ h => h) (Or.inr ⟨by rfl, rfl⟩) ?_ ?_
    rotate_left
    · simp only [Act.put, List.setIfInBounds_toArray, List.set_cons_zero, List.set_cons_succ, i64_w, i32_w]
      rfl
    refine pure_ (i := 9) (N := some 20) (v := undef) (a' := ?_) #[true, true, true, true, true, true, true, true, true, true, false, false, false] rfl rfl (by kernel_rfl) (fun _ _ _ h => h) (Or.inr ⟨by rfl, rfl⟩) ?_ ?_
    rotate_left
    · simp only [Act.put, List.setIfInBounds_toArray, List.set_cons_zero, List.set_cons_succ, i64_w, i32_w]
      rfl
    refine pure_ (i := 10) (N := some 21) (v := undef) (a' := ?_) #[true, true, true, true, true, true, true, true, true, true, true, false, false] rfl rfl (by kernel_rfl) (fun _ _ _ h => h) (Or.inr ⟨by rfl, rfl⟩) ?_ ?_
    rotate_left
    · simp only [Act.put, List.setIfInBounds_toArray, List.set_cons_zero, List.set_cons_succ, i64_w, i32_w]
      rfl
    refine pure_ (i := 11) (N := some 22) (v := undef) (a' := ?_) #[true, true, true, true, true, true, true, true, true, true, true, true, false] rfl rfl (by kernel_rfl) (fun _ _ _ h => h) (Or.inr ⟨by rfl, rfl⟩) ?_ ?_
    rotate_left
    · simp only [Act.put, List.setIfInBounds_toArray, List.set_cons_zero, List.set_cons_succ, i64_w, i32_w]
      rfl
    refine pure_ (i := 12) (N := some 23) (v := ?_) (a' := ?_) #[true, true, true, true, true, true, true, true, true, true, true, true, true] rfl rfl (by kernel_rfl) (fun _ _ _ h => h) (Or.inl ⟨by rfl, ?_⟩) ?_ ?_
    rotate_left
    · intro w'
      go_simp
      with_reducible rfl
    rotate_left
    · simp only [Act.put, List.setIfInBounds_toArray, List.set_cons_zero, List.set_cons_succ, i64_w, i32_w]
      rfl
    refine done_ (by kernel_rfl) ?_
    go_wp2_with fail
    refine (HRT.out 1).mono ?_
    rintro e w3 ⟨q, rfl, rfl⟩
    cases b with
    | true =>
      go_wp2
      refine bodyPost_ret (v := .tuple #[.slice A m.length c, .bool true]) (by simp [results, Try.results9, go_sem]) rfl ?_
      have := HE.out
      simp only [if_true, Prod.mk.injEq] at this
      obtain ⟨rfl, rfl⟩ := this
      exact ⟨_, rfl, Kd.R_drewN HO.out q, pw_below_drewN HB.out q⟩
    | false =>
      go_wp2
      go_ret2
      have := HE.out
      simp only [Bool.false_eq_true, if_false, Prod.mk.injEq] at this
      obtain ⟨rfl, rfl⟩ := this
      exact ⟨_, rfl, Kd.R_nil _ _ _ _ _, pw_below_drewN HB.out q⟩


end Go.Proofs.Ytcfclhlgjpidhaa.PA
