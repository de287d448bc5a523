/- What package ring answers, in lists (plain Lean over the printed functions). -/
import Derived.Test.YtcfclhlgjpidhaaPAx17
import Derived.Test.YtcfclhlgjpidhaaPAx21
namespace Go.Proofs.Ytcfclhlgjpidhaa.PA
open Go.RowKit Go.Proofs.YtcfclhlgjpidhaaW.PrintWords Go.Proofs.YtcfclhlgjpidhaaW.PrintLast

/-- A list begun at place i. -/
def rot (l : List Int) (i : Nat) : List Int := l.drop i ++ l.take i
theorem rot_length (l : List Int) (i : Nat) (h : i ≤ l.length) : (rot l i).length = l.length := by simp [rot]; omega
theorem rot_len (l : List Int) (i : Nat) : (rot l i).length = l.length := by simp [rot]; omega
theorem rot_get (l : List Int) (i j : Nat) (hi : i < l.length) (hj : j < l.length) : rd (rot l i) j = rd l (((i + j) % l.length : Nat) : Int) := by
  unfold rd rot
  simp only [Int.toNat_natCast, List.getD_eq_getElem?_getD]
  rw [List.getElem?_append]
  simp only [List.length_drop]
  by_cases h : j < l.length - i
  · rw [if_pos h, List.getElem?_drop, Nat.mod_eq_of_lt (by omega)]
  · rw [if_neg h, List.getElem?_take_of_lt (by omega)]
    congr 2
    rw [Nat.mod_eq_sub_mod (by omega), Nat.mod_eq_of_lt (by omega)]
    omega

theorem turned_some (l : List Int) (hl : l.length ≤ 1000000) (i : Nat) (hi : i ≤ l.length) (h0 : l.length ≠ 0) : ring_turned.f l i = some (rot l i) := by
  unfold ring_turned.f rot
  rw [if_pos hl, if_neg h0, if_pos ⟨by omega, by omega⟩, Int.toNat_natCast]

theorem tmod_nat (a : Int) (n : Nat) (h : 0 ≤ a) : Int.tmod a n = ((a.toNat % n : Nat) : Int) := by
  rw [Int.tmod_eq_emod_of_nonneg h]
  obtain ⟨b, rfl⟩ := Int.eq_ofNat_of_zero_le h
  simp

theorem step_ev (l : List Int) (hl : l.length ≤ 1000000) (x n : Int) (hn : -1 ≤ n ∧ n ≤ 1) : Ev (fun k => ring_step.f k l x n) (if findI l x < 0 then (0, false) else (rd l (((findI l x + n + l.length).toNat % l.length : Nat) : Int), true)) := by
  unfold ring_step.f
  refine Ev.bind (index_ev l (by omega) x) ?_
  have hlt := findI_lt l x
  by_cases h : findI l x < 0
  · simp only [h, if_true]
    exact Ev.now _
  · have hpos : 0 < l.length := by omega
    have h2 := Nat.mod_lt (findI l x + n + l.length).toNat hpos
    simp only [h, if_false]
    rw [wrap_id (findI l x + n) (by omega), wrap_id (findI l x + n + l.length) (by omega), tmod_nat _ _ (by omega), if_neg (by omega), if_pos (by omega), if_pos (by omega)]
    exact Ev.now _
theorem after_ev (l : List Int) (hl : l.length ≤ 1000000) (x : Int) : Ev (fun k => ring_After.f k l x) (if findI l x < 0 then (0, false) else (rd l (((findI l x + 1 + l.length).toNat % l.length : Nat) : Int), true)) := by
  unfold ring_After.f
  exact Ev.bind (step_ev l hl x 1 (by omega)) (Ev.now _)
theorem before_ev (l : List Int) (hl : l.length ≤ 1000000) (x : Int) : Ev (fun k => ring_Before.f k l x) (if findI l x < 0 then (0, false) else (rd l (((findI l x + -1 + l.length).toNat % l.length : Nat) : Int), true)) := by
  unfold ring_Before.f
  exact Ev.bind (step_ev l hl x (-1) (by omega)) (Ev.now _)
theorem from_ev (l : List Int) (hl : l.length ≤ 1000000) (x : Int) : Ev (fun k => ring_From.f k l x) (if findI l x < 0 then ([], false) else (rot l (findI l x).toNat, true)) := by
  unfold ring_From.f
  refine Ev.bind (index_ev l (by omega) x) ?_
  have hlt := findI_lt l x
  by_cases h : findI l x < 0
  · simp only [h, if_true]
    exact Ev.now _
  · simp only [h, if_false]
    have e : ring_turned.f l (findI l x) = some (rot l (findI l x).toNat) := by
      have := turned_some l hl (findI l x).toNat (by omega) (by omega)
      rwa [Int.toNat_of_nonneg (by omega)] at this
    rw [e]
    exact Ev.now _

theorem awake_ev : Ev (fun k => tracerylaw02_awake.f k) true := Ev.of (fun k => tracerylaw02_awake.mono k) (k := 30) (by kernel_rfl)

theorem nodup_find (l : List Int) (hn : l.Nodup) (i : Nat) (hi : i < l.length) : findI l (rd l i) = (i : Int) := by
  rw [rd_nat l i hi]
  refine findI_at hi rfl (fun j hj e => ?_)
  rw [rd_nat l j (by omega)] at e
  exact absurd e (List.pairwise_iff_getElem.1 hn j i (by omega) hi hj)

/-- The steps of law RingSteps: after each number of the list begun at a, the next one. -/
theorem steps_l0 (l : List Int) (hl : l.length ≤ 100) (hn : l.Nodup) (a : Nat) (ha : a < l.length) : ∀ (d j : Nat), l.length - j = d → j ≤ l.length → Ev (fun k => tracerylaw02_RingSteps.l0 k l (rot l a) j) true
  | 0, j => fun hd hjl => by
    have hr := rot_length l a (by omega)
    refine Ev.step (f := fun _ => some true) (fun k => ?_) (Ev.now _)
    simp only [tracerylaw02_RingSteps.l0]
    rw [wrap_id ((j : Int) + 1) (by omega), if_neg (by omega)]
  | d + 1, j => fun hd hjl => by
    have hr := rot_length l a (by omega)
    have hj : j < l.length := by omega
    by_cases hlast : j + 1 < l.length
    · have ih := steps_l0 l hl hn a ha d (j + 1) (by omega) (by omega)
      have hA := after_ev l (by omega) (rd (rot l a) j)
      rw [rot_get l a j ha hj] at hA
      have hm := Nat.mod_lt (a + j) (show 0 < l.length by omega)
      rw [nodup_find l hn _ hm, if_neg (by omega)] at hA
      refine Ev.step (f := fun k => (ring_After.f k l (rd l (((a + j) % l.length : Nat) : Int))).bind fun bt211 => (if bt211.2 = true then (if bt211.1 = (rd (rot l a) ((j + 1 : Nat) : Int)) then (tracerylaw02_RingSteps.l0 k l (rot l a) ((j + 1 : Nat) : Int)) else (some false)) else (some false))) (fun k => ?_) ?_
      · simp only [tracerylaw02_RingSteps.l0]
        rw [wrap_id ((j : Int) + 1) (by omega), if_pos (by omega), if_pos (by omega), if_pos (by omega), rot_get l a j ha hj]
        congr 1
      · refine Ev.bind hA ?_
        have hx : rd l ((((((a + j) % l.length : Nat) : Int) + 1 + (l.length : Int)).toNat % l.length : Nat) : Int) = rd (rot l a) ((j + 1 : Nat) : Int) := by
          rw [rot_get l a (j + 1) ha hlast]
          congr 2
          have e1 : ((((a + j) % l.length : Nat) : Int) + 1 + (l.length : Int)).toNat = (a + j) % l.length + 1 + l.length := by omega
          rw [e1, Nat.add_mod_right, Nat.mod_add_mod]
          congr 1
        simp only [if_true]
        exact Ev.congr (fun k => by rw [if_pos hx]) ih
    · refine Ev.step (f := fun _ => some true) (fun k => ?_) (Ev.now _)
      simp only [tracerylaw02_RingSteps.l0]
      rw [wrap_id ((j : Int) + 1) (by omega), if_neg (by omega)]

theorem steps_pure : tracerylaw02_RingSteps.Pure := by
  intro l x _ _ _ _
  apply Ev.rounds
  unfold tracerylaw02_RingSteps.f
  refine Ev.bind awake_ev ?_
  simp only [if_true]
  have hgo : Ev (fun k => tracerylaw02_RingSteps.j0 k l x true) true := Ev.step (f := fun k => (tracerylaw02_awake.f k).bind fun t194 => (some t194)) (fun k => by simp only [tracerylaw02_RingSteps.j0]; rw [if_pos trivial]) (Ev.bind awake_ev (Ev.now _))
  by_cases h : (l.length : Int) > 100
  · simp only [h, if_true]
    exact hgo
  · simp only [h, if_false]
    refine Ev.bind (right_ev l (by omega)) ?_
    by_cases hn : l.Nodup
    rotate_left
    · have : nodupB l = false := decide_eq_false hn
      rw [this]
      exact hgo
    have hnb : nodupB l = true := decide_eq_true hn
    rw [hnb]
    have hlt := findI_lt l x
    have hA := after_ev l (by omega) x
    have hF := from_ev l (by omega) x
    apply Ev.step
    · intro k
      simp only [tracerylaw02_RingSteps.j0]
      rw [if_neg (by simp)]
    by_cases hx : findI l x < 0
    · rw [if_pos hx] at hA hF
      have hB := before_ev l (by omega) x
      rw [if_pos hx] at hB
      refine Ev.bind hA ?_
      simp only [Bool.false_eq_true, if_false]
      refine Ev.bind hB ?_
      refine Ev.bind hF ?_
      simp
      exact Ev.now _
    · rw [if_neg hx] at hA hF
      obtain ⟨a, ha⟩ : ∃ a : Nat, findI l x = (a : Int) := ⟨(findI l x).toNat, by omega⟩
      have hal : a < l.length := by omega
      have hxa : x = rd l a := by
        have hm : x ∈ l := (findI_nonneg l x).1 (by omega)
        unfold findI at ha
        rw [if_pos hm] at ha
        have e : findN l x = a := by omega
        rw [rd_nat l a hal]
        have := findN_get (findN_lt hm)
        simp only [e] at this
        exact this.symm
      rw [ha] at hA hF
      have hB := before_ev l (by omega) (rd l ((((a : Int) + 1 + (l.length : Int)).toNat % l.length : Nat) : Int))
      have e1 : ((a : Int) + 1 + (l.length : Int)).toNat % l.length = (a + 1) % l.length := by
        rw [show ((a : Int) + 1 + (l.length : Int)).toNat = a + 1 + l.length by omega, Nat.add_mod_right]
      have hm := Nat.mod_lt (a + 1) (show 0 < l.length by omega)
      rw [e1] at hA hB
      rw [nodup_find l hn _ hm, if_neg (by omega)] at hB
      have e2 : ((((a + 1) % l.length : Nat) : Int) + -1 + (l.length : Int)).toNat % l.length = a := by
        rcases Nat.lt_or_ge (a + 1) l.length with h2 | h2
        · rw [Nat.mod_eq_of_lt h2, show (((a + 1 : Nat) : Int) + -1 + (l.length : Int)).toNat = a + l.length by omega, Nat.add_mod_right, Nat.mod_eq_of_lt hal]
        · have h3 : a + 1 = l.length := by omega
          rw [h3, Nat.mod_self, show (((0 : Nat) : Int) + -1 + (l.length : Int)).toNat = a by omega, Nat.mod_eq_of_lt hal]
      rw [e2] at hB
      refine Ev.bind hA ?_
      simp only [if_true]
      refine Ev.bind hB ?_
      refine Ev.bind hF ?_
      have hr := rot_length l a (by omega)
      have h0 : (rd (rot l a) 0 != x) = false := by
        have := rot_get l a 0 hal (by omega)
        rw [show ((0 : Nat) : Int) = 0 from rfl, Nat.add_zero, Nat.mod_eq_of_lt hal] at this
        rw [this, hxa]
        simp
      simp only [Int.toNat_natCast, hr, if_true, hxa.symm]
      rw [h0]
      refine Ev.congr (fun k => by rw [if_pos (by omega)]) ?_
      exact Ev.step (f := fun k => tracerylaw02_RingSteps.l0 k l (rot l a) 0) (fun k => by simp only [tracerylaw02_RingSteps.j1]; rw [if_neg (by simp)]) (steps_l0 l (by omega) hn a hal _ 0 rfl (by omega))

/-! ### RingLabels -/
theorem list_ext_rd {a b : List Int} (h : a.length = b.length) (hr : ∀ j : Nat, j < a.length → rd a j = rd b j) : a = b := by
  refine List.ext_getElem h (fun j h1 h2 => ?_)
  have := hr j h1
  rwa [rd_nat a j h1, rd_nat b j h2] at this
theorem ref_eq_l0 (a b : List Int) (hl : a.length = b.length) (ha : a.length ≤ 1000000) : ∀ (d i : Nat), a.length - i = d → i ≤ a.length → (∀ j : Nat, j < i → rd a j = rd b j) → Ev (fun k => traceryref02_Equal.l0 k a b i) (decide (a = b))
  | 0, i => fun hd hi h => by
    rw [decide_eq_true (list_ext_rd hl (fun j hj => h j (by omega)))]
    refine Ev.step (f := fun _ => some true) (fun k => ?_) (Ev.now _)
    simp only [traceryref02_Equal.l0]
    rw [if_neg (by omega)]
  | d + 1, i => fun hd hi h => by
    by_cases he : rd a i = rd b i
    · refine Ev.step (f := fun k => traceryref02_Equal.l0 k a b ((i + 1 : Nat) : Int)) (fun k => ?_) (ref_eq_l0 a b hl ha d (i + 1) (by omega) (by omega) (fun j hj => by
        rcases Nat.lt_or_ge j i with h1 | h1
        · exact h j h1
        · obtain rfl : j = i := by omega
          exact he))
      simp only [traceryref02_Equal.l0]
      rw [if_pos (by omega), if_pos (by omega), if_pos (by omega), if_pos he, wrap_id _ (by omega)]
      rfl
    · rw [decide_eq_false (fun e => he (by rw [e]))]
      refine Ev.step (f := fun _ => some false) (fun k => ?_) (Ev.now _)
      simp only [traceryref02_Equal.l0]
      rw [if_pos (by omega), if_pos (by omega), if_pos (by omega), if_neg he]
theorem ref_eq_ev (a b : List Int) (ha : a.length ≤ 1000000) : Ev (fun k => traceryref02_Equal.f k a b) (decide (a = b)) := by
  unfold traceryref02_Equal.f
  by_cases h : (a.length : Int) = (b.length : Int)
  · simp only [h, if_true]
    exact ref_eq_l0 a b (by omega) ha _ 0 rfl (by omega) (fun j hj => by omega)
  · simp only [h, if_false]
    rw [decide_eq_false (fun e => h (by rw [e]))]
    exact Ev.now _

/-- One ring: from place i on, some place j gives the list. -/
theorem upto_succ (l : List Int) (i : Nat) (h : i < l.length) : Lib.compactUpTo l.toArray (i + 1) = if i = 0 ∨ rd l i ≠ rd l ((i : Int) - 1) then Lib.compactUpTo l.toArray i ++ [rd l i] else Lib.compactUpTo l.toArray i := by
  unfold Lib.compactUpTo
  rw [List.range_succ, List.filter_append, List.map_append]
  have e1 : l.toArray[i]! = rd l i := by rw [rd_nat l i h]; simp [h]
  have e2 : 0 < i → l.toArray[i - 1]! = rd l ((i : Int) - 1) := by
    intro hi
    rw [show (i : Int) - 1 = ((i - 1 : Nat) : Int) by omega, rd_nat l (i - 1) (by omega)]
    simp [show i - 1 < l.length by omega]
  have hk : Lib.keeps l.toArray i = decide (i = 0 ∨ rd l i ≠ rd l ((i : Int) - 1)) := by
    unfold Lib.keeps
    rw [decide_eq_decide]
    rcases Nat.eq_zero_or_pos i with h0 | h0
    · simp [h0]
    · rw [e1, e2 h0]
  by_cases hc : i = 0 ∨ rd l i ≠ rd l ((i : Int) - 1)
  · rw [if_pos hc]
    simp [hk, hc]
    rw [rd_nat l i h]
    simp [h]
  · rw [if_neg hc]
    simp [hk, hc]
theorem upto_len (l : List Int) : ∀ i, i ≤ l.length → (Lib.compactUpTo l.toArray i).length ≤ i
  | 0 => fun _ => by simp [Lib.compactUpTo]
  | i + 1 => fun h => by
    have := upto_len l i (by omega)
    rw [upto_succ l i (by omega)]
    split
    · simp; omega
    · omega
theorem find_l0 (l : List Int) (hl : l.length ≤ 1000000) (x : Int) : ∀ (d i : Nat), l.length - i = d → (∀ j : Nat, j < i → rd l j ≠ x) → Ev (fun k => traceryref02_Find.l0 k l x i) (findI l x)
  | 0, i => fun hd h => by
    refine Ev.step (f := fun _ => some (findI l x)) (fun k => ?_) (Ev.now _)
    simp only [traceryref02_Find.l0]
    rw [if_neg (by omega), findI_none (fun j hj => h j (by omega))]
  | d + 1, i => fun hd h => by
    have hi : i < l.length := by omega
    by_cases hx : rd l i = x
    · refine Ev.step (f := fun _ => some (findI l x)) (fun k => ?_) (Ev.now _)
      simp only [traceryref02_Find.l0]
      rw [if_pos (by omega), if_pos (by omega), if_pos hx, findI_at hi (by rw [← hx, rd_nat l i hi]) h]
    · refine Ev.step (f := fun k => traceryref02_Find.l0 k l x ((i + 1 : Nat) : Int)) (fun k => ?_) (find_l0 l hl x d (i + 1) (by omega) (fun j hj => by
        rcases Nat.lt_or_ge j i with h1 | h1
        · exact h j h1
        · obtain rfl : j = i := by omega
          exact hx))
      simp only [traceryref02_Find.l0]
      rw [if_pos (by omega), if_pos (by omega), if_neg hx, wrap_id _ (by omega)]
      rfl
theorem find_ev (l : List Int) (hl : l.length ≤ 1000000) (x : Int) : Ev (fun k => traceryref02_Find.f k l x) (findI l x) := find_l0 l hl x _ 0 rfl (fun j hj => by omega)
theorem ref_right_l0 (l : List Int) (hl : l.length ≤ 1000000) : ∀ (d i : Nat), l.length - i = d → i ≤ l.length → (l.take i).Nodup → Ev (fun k => traceryref02_Right.l0 k l i) (nodupB l)
  | 0, i => fun hd hi h => by
    have : nodupB l = true := by rw [List.take_of_length_le (by omega)] at h; simp [nodupB, h]
    rw [this]
    refine Ev.step (f := fun _ => some true) (fun k => ?_) (Ev.now _)
    simp only [traceryref02_Right.l0]
    rw [if_neg (by omega)]
  | d + 1, i => fun hd hi h => by
    have hlt : i < l.length := by omega
    refine Ev.step (f := fun k => (traceryref02_Find.f k l (rd l i)).bind fun t145 => (if t145 < (i : Int) then (some false) else (traceryref02_Right.l0 k l ((i + 1 : Nat) : Int)))) (fun k => ?_) ?_
    · simp only [traceryref02_Right.l0]
      rw [if_pos (by omega), if_pos (by omega), wrap_id _ (by omega)]
      rfl
    · refine Ev.bind (find_ev l hl _) ?_
      have hml : l[i] ∈ l := List.getElem_mem hlt
      have hf := findN_first hlt rfl
      have hfl := findN_lt hml
      have hfg := findN_get hfl
      rw [rd_nat l i hlt]
      have hfi : findI l l[i] = (findN l l[i] : Int) := by unfold findI; rw [if_pos hml]
      rw [hfi]
      by_cases hm : findN l l[i] < i
      · have : nodupB l = false := by
          unfold nodupB
          rw [decide_eq_false_iff_not]
          intro hn
          exact absurd hfg (List.pairwise_iff_getElem.1 hn _ i hfl hlt hm)
        rw [this]
        exact Ev.congr (f := fun _ => some false) (fun k => by rw [if_pos (by omega)]) (Ev.now _)
      · refine Ev.congr (fun k => by rw [if_neg (by omega)]) (ref_right_l0 l hl d (i + 1) (by omega) (by omega) ((nodup_take_succ l i hlt).2 ⟨h, fun hmem => ?_⟩))
        obtain ⟨j, hj, e⟩ := List.getElem_of_mem hmem
        rw [List.length_take] at hj
        rw [List.getElem_take] at e
        have := findN_first (l := l) (x := l[i]) (i := j) (by omega) e
        omega
theorem ref_right_ev (l : List Int) (hl : l.length ≤ 1000000) : Ev (fun k => traceryref02_Right.f k l) (nodupB l) := ref_right_l0 l hl _ 0 rfl (by omega) (by simp)

def labR (l : List Int) : List Int × Bool := if nodupB (labL l) = true then (labL l, true) else ([], false)
theorem ref_labels_l0 (l : List Int) (hl : l.length ≤ 100) : ∀ (d i : Nat), l.length - i = d → i ≤ l.length → Ev (fun k => traceryref02_Labels.l0 k l (Lib.compactUpTo l.toArray i) i) (labR l)
  | 0, i => fun hd hi => by
    obtain rfl : i = l.length := by omega
    have hlen := upto_len l l.length (Nat.le_refl _)
    have hM : Lib.compact l = Lib.compactUpTo l.toArray l.length := rfl
    unfold labR
    have hlab : labL l = if 1 < (Lib.compactUpTo l.toArray l.length).length ∧ rd (Lib.compactUpTo l.toArray l.length) 0 = rd (Lib.compactUpTo l.toArray l.length) (((Lib.compactUpTo l.toArray l.length).length : Int) - 1) then (Lib.compactUpTo l.toArray l.length).take ((Lib.compactUpTo l.toArray l.length).length - 1) else Lib.compactUpTo l.toArray l.length := rfl
    generalize Lib.compactUpTo l.toArray l.length = m at hlen hlab
    have hend : ∀ (q : List Int), q.length ≤ 100 → Ev (fun k => (traceryref02_Right.f k q).bind fun t161 => (if t161 = true then (some (q, true)) else (some (([] : List Int), false)))) (if nodupB q = true then (q, true) else ([], false)) := by
      intro q hq
      refine Ev.bind (ref_right_ev q (by omega)) ?_
      cases nodupB q
      · exact Ev.now _
      · exact Ev.now _
    have ew : wrap64 ((m.length : Int) - 1) = (m.length : Int) - 1 := wrap_id _ (by omega)
    have hj : ∀ b, (b = true → 1 < m.length) → Ev (fun k => traceryref02_Labels.j1 k m b) (if nodupB (if b = true then m.take (m.length - 1) else m) = true then ((if b = true then m.take (m.length - 1) else m), true) else ([], false)) := by
      intro b hb
      cases b with
      | true =>
        have := hb rfl
        refine Ev.step (fun k => ?_) (hend (m.take (m.length - 1)) (by rw [List.length_take]; omega))
        simp only [traceryref02_Labels.j1]
        rw [if_pos trivial, ew, if_pos (by omega), if_pos (by omega), show ((m.length : Int) - 1).toNat = m.length - 1 by omega]
        rfl
      | false =>
        refine Ev.step (fun k => ?_) (hend m (by omega))
        simp only [traceryref02_Labels.j1]
        rw [if_neg (by simp)]
    by_cases h1 : 1 < m.length
    · have := hj (rd m 0 == rd m ((m.length : Int) - 1)) (fun _ => h1)
      have he : (if (rd m 0 == rd m ((m.length : Int) - 1)) = true then m.take (m.length - 1) else m) = labL l := by
        rw [hlab]
        by_cases hq : rd m 0 = rd m ((m.length : Int) - 1)
        · rw [if_pos (beq_iff_eq.2 hq), if_pos ⟨h1, hq⟩]
        · rw [if_neg (by simpa using hq), if_neg (fun h => hq h.2)]
      rw [he] at this
      refine Ev.step (fun k => ?_) this
      simp only [traceryref02_Labels.l0]
      rw [if_neg (by omega), if_pos (by omega), if_pos (by omega), ew, if_pos (by omega), if_pos (by omega)]
    · have := hj false (by simp)
      have he : (if (false : Bool) = true then m.take (m.length - 1) else m) = labL l := by
        rw [hlab, if_neg (by simp), if_neg (fun h => h1 h.1)]
      rw [he] at this
      refine Ev.step (fun k => ?_) this
      simp only [traceryref02_Labels.l0]
      rw [if_neg (by omega), if_neg (by omega)]
  | d + 1, i => fun hd hi => by
    have hlt : i < l.length := by omega
    have hlen := upto_len l i (by omega)
    have ih := ref_labels_l0 l hl d (i + 1) (by omega) (by omega)
    rw [upto_succ l i hlt] at ih
    refine Ev.step (fun k => ?_) ih
    simp only [traceryref02_Labels.l0]
    rw [if_pos (by omega), wrap_id ((i : Int) + 1) (by omega)]
    by_cases h0 : (i : Int) > 0
    · rw [if_pos h0, wrap_id ((i : Int) - 1) (by omega), if_pos (by omega), if_pos (by omega), if_pos (by omega)]
      by_cases he : rd l i = rd l ((i : Int) - 1)
      · rw [if_pos he, if_neg (by omega)]
        rfl
      · rw [if_neg he, if_pos (by omega), if_pos (.inr he)]
        rfl
    · rw [if_neg h0, if_pos (by omega), if_pos (by omega), if_pos (.inl (by omega))]
      rfl

theorem labels_pure : tracerylaw02_RingLabels.Pure := by
  intro l _ _ _
  apply Ev.rounds
  unfold tracerylaw02_RingLabels.f
  refine Ev.bind awake_ev ?_
  simp only [if_true]
  by_cases h : (l.length : Int) > 100
  · rw [decide_eq_true h]
    exact Ev.step (f := fun k => (tracerylaw02_awake.f k).bind fun t194 => (some t194)) (fun k => by simp only [tracerylaw02_RingLabels.j0]; rw [if_pos trivial]) (Ev.bind awake_ev (Ev.now _))
  · rw [decide_eq_false h]
    have hL : Ev (fun k => traceryref02_Labels.f k l) (labR l) := ref_labels_l0 l (by omega) _ 0 rfl (by omega)
    have hlen : (labR l).1.length ≤ 1000000 := by
      unfold labR labL
      have := compact_le l
      repeat' split
      all_goals simp
      all_goals omega
    refine Ev.step (f := fun k => ((traceryref02_Labels.f k l).bind fun bt181 => (if ((labR l).2 == bt181.2) = true then ((traceryref02_Equal.f k (labR l).1 bt181.1).bind fun t185 => (some t185)) else (some false)))) (fun k => ?_) ?_
    · simp only [tracerylaw02_RingLabels.j0]
      rw [if_neg (by simp)]
      unfold ring_Labels.f
      rw [if_pos (by omega)]
      rfl
    · refine Ev.bind hL ?_
      simp only [beq_self_eq_true, if_true]
      have hE := ref_eq_ev (labR l).1 (labR l).1 hlen
      rw [decide_eq_true rfl] at hE
      exact Ev.bind hE (Ev.now _)

end Go.Proofs.Ytcfclhlgjpidhaa.PA
