/- The law RingTurns, in lists. -/
import Derived.Test.YtcfclhlgjpidhaaRingLaw
import Derived.Test.YtcfclhlgjpidhaaPAx27
namespace Go.Proofs.Ytcfclhlgjpidhaa.PA
open Go.RowKit Go.Proofs.YtcfclhlgjpidhaaW.PrintWords Go.Proofs.YtcfclhlgjpidhaaW.PrintLast

/-! ### RingTurns -/
theorem eq_l0 (a b : List Int) (hl : a.length = b.length) (ha : a.length ≤ 1000000) : ∀ (d i : Nat), a.length - i = d → i ≤ a.length → (∀ j : Nat, j < i → rd a j = rd b j) → Ev (fun k => slices_Equal_int_int.l0 k a b (a.length : Int) i) (decide (a = b))
  | 0, i => fun hd hi h => by
    rw [decide_eq_true (list_ext_rd hl (fun j hj => h j (by omega)))]
    refine Ev.step (f := fun _ => some true) (fun k => ?_) (Ev.now _)
    simp only [slices_Equal_int_int.l0]
    rw [if_neg (by omega)]
  | d + 1, i => fun hd hi h => by
    by_cases he : rd a i = rd b i
    · refine Ev.step (f := fun k => slices_Equal_int_int.l0 k a b (a.length : Int) ((i + 1 : Nat) : Int)) (fun k => ?_) (eq_l0 a b hl ha d (i + 1) (by omega) (by omega) (fun j hj => by
        rcases Nat.lt_or_ge j i with h1 | h1
        · exact h j h1
        · obtain rfl : j = i := by omega
          exact he))
      simp only [slices_Equal_int_int.l0]
      rw [if_pos (by omega), if_pos (by omega), if_pos (by omega), if_pos (by omega), if_pos he, wrap_id _ (by omega)]
      rfl
    · rw [decide_eq_false (fun e => he (by rw [e]))]
      refine Ev.step (f := fun _ => some false) (fun k => ?_) (Ev.now _)
      simp only [slices_Equal_int_int.l0]
      rw [if_pos (by omega), if_pos (by omega), if_pos (by omega), if_pos (by omega), if_neg he]
theorem eq_ev (a b : List Int) (ha : a.length ≤ 1000000) : Ev (fun k => slices_Equal_int_int.f k a b) (decide (a = b)) := by
  unfold slices_Equal_int_int.f
  by_cases h : (a.length : Int) = (b.length : Int)
  · simp only [h, if_true]
    have := eq_l0 a b (by omega) ha _ 0 rfl (by omega) (fun j hj => by omega)
    rwa [h] at this
  · simp only [h, if_false]
    rw [decide_eq_false (fun e => h (by rw [e]))]
    exact Ev.now _
theorem same_l0 (a b : List Int) (hb : b.length ≤ 1000000) (hl : a.length = b.length) (j : Nat) (hj : j < b.length) (he : a = rot b j) : ∀ (d i : Nat), j - i = d → i ≤ j → Ev (fun k => ring_Same.l0 k a b (b.length : Int) i) true
  | d, i => fun hd hi => by
    have ht := turned_some b hb i (by omega) (by omega)
    have hq := eq_ev a (rot b i) (by omega)
    refine Ev.step (f := fun k => (slices_Equal_int_int.f k a (rot b i)).bind fun t223 => (if t223 = true then (some true) else (ring_Same.l0 k a b (b.length : Int) ((i + 1 : Nat) : Int)))) (fun k => ?_) ?_
    · simp only [ring_Same.l0]
      rw [if_pos (by omega), ht, wrap_id _ (by omega)]
      rfl
    · refine Ev.bind hq ?_
      by_cases h : a = rot b i
      · rw [decide_eq_true h]
        exact Ev.now _
      · rw [decide_eq_false h]
        have hij : i ≠ j := fun e => h (by rw [e]; exact he)
        cases d with
        | zero => omega
        | succ d => exact same_l0 a b hb hl j hj he d (i + 1) (by omega) (by omega)
theorem same_ev (a b : List Int) (hb : b.length ≤ 1000000) (hl : a.length = b.length) (h : b.length = 0 ∨ ∃ j, j < b.length ∧ a = rot b j) : Ev (fun k => ring_Same.f k a b) true := by
  unfold ring_Same.f
  simp only [hl, if_true]
  rcases h with h | ⟨j, hj, he⟩
  · refine Ev.step (f := fun _ => some true) (fun k => ?_) (Ev.now _)
    simp only [ring_Same.l0]
    rw [if_neg (by omega)]
    have : ((a.length : Int) == 0) = true := beq_iff_eq.2 (by omega)
    rw [this]
  · exact same_l0 a b hb hl j hj he _ 0 rfl (by omega)

theorem rev_l0 (l : List Int) (hl : l.length ≤ 1000000) : ∀ (d i : Nat) (xs : List Int), l.length - i = d → xs.length = l.length → 2 * i ≤ l.length + 1 → (∀ j : Nat, j < l.length → rd xs j = if j < i ∨ l.length ≤ j + i then rd l ((l.length - 1 - j : Nat) : Int) else rd l j) → Ev (fun k => slices_Reverse_int_int.l0 k xs i ((l.length : Int) - 1 - i)) l.reverse
  | d, i, xs => fun hd hx hi h => by
    by_cases hlt : (i : Int) < (l.length : Int) - 1 - i
    · refine Ev.step (f := fun k => slices_Reverse_int_int.l0 k ((xs.set i (rd xs ((l.length - 1 - i : Nat) : Int))).set (l.length - 1 - i) (rd xs i)) ((i + 1 : Nat) : Int) ((l.length : Int) - 1 - ((i + 1 : Nat) : Int))) (fun k => ?_) ?_
      · have e0 : (l.length : Int) - 1 - i = ((l.length - 1 - i : Nat) : Int) := by omega
        simp only [slices_Reverse_int_int.l0]
        rw [if_pos hlt, if_pos (by omega), if_pos (by omega), if_pos (by omega), if_pos (by omega), wrap_id ((i : Int) + 1) (by omega), wrap_id ((l.length : Int) - 1 - i - 1) (by omega), e0]
        simp only [Int.toNat_natCast]
        congr 1
        omega
      · cases d with
        | zero => omega
        | succ d =>
          refine rev_l0 l hl d (i + 1) _ (by omega) (by simp [hx]) (by omega) (fun j hj => ?_)
          have hset : ∀ (ys : List Int) (p : Nat) (v : Int), p < ys.length → rd (ys.set p v) j = if j = p then v else rd ys j := by
            intro ys p v hp
            unfold rd
            simp only [Int.toNat_natCast, List.getD_eq_getElem?_getD, List.getElem?_set]
            by_cases hjp : j = p
            · subst hjp; simp [hp]
            · rw [if_neg (fun e => hjp e.symm), if_neg hjp]
          rw [hset _ _ _ (by simp [hx]; omega), hset _ _ _ (by omega), h (l.length - 1 - i) (by omega), h i (by omega), h j hj]
          by_cases h1 : j = l.length - 1 - i
          · rw [if_pos h1, if_neg (by omega), if_pos (by omega)]
            congr 2
            omega
          · rw [if_neg h1]
            by_cases h2 : j = i
            · rw [if_pos h2, if_neg (by omega), if_pos (by omega), h2]
            · rw [if_neg h2]
              by_cases h3 : j < i ∨ l.length ≤ j + i
              · rw [if_pos h3, if_pos (by omega)]
              · rw [if_neg h3, if_neg (by omega)]
    · have hfin : xs = l.reverse := by
        refine list_ext_rd (by simp [hx]) (fun j hj => ?_)
        have hj' : j < l.length := by omega
        rw [h j hj', rd_nat l.reverse j (by simp; omega), List.getElem_reverse, ← rd_nat l _ (by omega)]
        split
        · rfl
        · congr 2
          omega
      refine Ev.step (f := fun _ => some l.reverse) (fun k => ?_) (Ev.now _)
      simp only [slices_Reverse_int_int.l0]
      rw [if_neg hlt, hfin]
theorem about_ev (l : List Int) (hl : l.length ≤ 1000000) : Ev (fun k => ring_About.f k l) l.reverse := by
  unfold ring_About.f slices_Clone_int_int.f
  rw [if_pos (by omega)]
  simp only [Option.bind_some]
  refine Ev.bind (g := fun k => slices_Reverse_int_int.f k l) (a := l.reverse) ?_ (Ev.now _)
  unfold slices_Reverse_int_int.f
  rw [wrap_id _ (by omega)]
  have := rev_l0 l hl _ 0 l rfl rfl (by omega) (fun j hj => by rw [if_neg (by omega)])
  simpa using this

theorem ref_turned_l0 (l : List Int) (hl : l.length ≤ 1000000) (a : Nat) (_ha : a ≤ 1000000) : ∀ (d i : Nat) (acc : List Int), l.length - i = d → i ≤ l.length → acc = (rot l (a % l.length)).take i → Ev (fun k => traceryref02_Turned.l0 k l a acc i) (rot l (a % l.length))
  | 0, i, acc => fun hd hi hacc => by
    refine Ev.step (f := fun _ => some acc) (fun k => ?_) ?_
    · simp only [traceryref02_Turned.l0]
      rw [if_neg (by omega)]
    · rw [hacc, List.take_of_length_le (by rw [rot_len]; omega)]
      exact Ev.now _
  | d + 1, i, acc => fun hd hi hacc => by
    have hpos : 0 < l.length := by omega
    have hm := Nat.mod_lt a hpos
    have hr := rot_length l (a % l.length) (by omega)
    have hg := rot_get l (a % l.length) i hm (by omega)
    rw [Nat.mod_add_mod] at hg
    have hm2 := Nat.mod_lt (a + i) hpos
    have hal : acc.length ≤ 1000000 := by rw [hacc, List.length_take]; omega
    refine Ev.step (f := fun k => traceryref02_Turned.l0 k l a (acc ++ [rd (rot l (a % l.length)) i]) ((i + 1 : Nat) : Int)) (fun k => ?_) (ref_turned_l0 l hl a _ha d (i + 1) _ (by omega) (by omega) ?_)
    · simp only [traceryref02_Turned.l0]
      rw [wrap_id ((a : Int) + i) (by omega), tmod_nat _ _ (by omega), show ((a : Int) + (i : Int)).toNat = a + i by omega, if_pos (by omega), if_neg (by omega), if_pos (by omega), if_pos (by omega), if_pos (by omega), wrap_id _ (by omega), hg]
      rfl
    · rw [hacc, List.take_succ_eq_append_getElem (by omega), rd_nat _ i (by omega)]

theorem rot_rot (l : List Int) (a : Nat) (_ha : a ≤ l.length) : rot (rot l a) (l.length - a) = l := by
  unfold rot
  have h1 : l.length - a = (l.drop a).length := by simp
  rw [h1, List.drop_left, List.take_left, List.take_append_drop]
theorem reverse_rot (l : List Int) (a : Nat) (_ha : a ≤ l.length) : rot (rot l a).reverse a = l.reverse := by
  unfold rot
  have hp : (l.take a).reverse.length = a := by simp; omega
  have key : ∀ (p q : List Int), p.length = a → (p ++ q).drop a ++ (p ++ q).take a = q ++ p := by
    intro p q h
    subst h
    simp
  rw [List.reverse_append, key _ _ hp, ← List.reverse_append, List.take_append_drop]
theorem rot_zero (l : List Int) : rot l 0 = l := by simp [rot]

theorem minOf_mem (l : List Int) (h : l ≠ []) : minOf l ∈ l := by
  cases l with
  | nil => exact absurd rfl h
  | cons x t =>
    have key : ∀ (t : List Int) (x : Int), t.foldl mn x = x ∨ t.foldl mn x ∈ t := by
      intro t
      induction t with
      | nil => intro x; exact .inl rfl
      | cons y t ih =>
        intro x
        simp only [List.foldl_cons]
        rcases ih (mn x y) with h | h
        · rw [h]
          unfold mn
          split
          · exact .inr (by simp)
          · exact .inl rfl
        · exact .inr (List.mem_cons_of_mem _ h)
    rcases key t x with h | h
    · simp only [minOf]; rw [h]; simp
    · exact List.mem_cons_of_mem _ h
theorem first_ev (l : List Int) (hl : l.length ≤ 1000000) (h0 : l.length ≠ 0) : ∃ i, i < l.length ∧ Ev (fun k => ring_First.f k l) (rot l i) := by
  have hm : minOf l ∈ l := minOf_mem l (fun e => h0 (by rw [e]; rfl))
  have hn := (findI_nonneg l (minOf l)).2 hm
  have hlt := findI_lt l (minOf l)
  refine ⟨(findI l (minOf l)).toNat, by omega, ?_⟩
  unfold ring_First.f slices_Min_int_int.f
  simp only [show ¬ ((l.length : Int) = 0) by omega, if_false, h0, Option.bind_some]
  refine Ev.bind (index_ev l (by omega) _) ?_
  have e := turned_some l hl (findI l (minOf l)).toNat (by omega) h0
  rw [Int.toNat_of_nonneg hn] at e
  rw [e]
  exact Ev.now _

theorem turns_pure : tracerylaw02_RingTurns.Pure := by
  intro l a _ _ _ ha
  apply Ev.rounds
  unfold tracerylaw02_RingTurns.f
  refine Ev.bind awake_ev ?_
  simp only [if_true]
  by_cases h : (l.length : Int) > 100
  · rw [decide_eq_true h]
    exact Ev.step (f := fun k => (tracerylaw02_awake.f k).bind fun t194 => (some t194)) (fun k => by simp only [tracerylaw02_RingTurns.j0]; rw [if_pos trivial]) (Ev.bind awake_ev (Ev.now _))
  · rw [decide_eq_false h]
    have hu : 0 ≤ a ∧ a ≤ 255 := by
      have h1 : IntKind.u8.min = 0 := rfl
      have h2 : IntKind.u8.max = 255 := rfl
      simp [Lit.wf] at ha
      omega
    obtain ⟨a, rfl⟩ := Int.eq_ofNat_of_zero_le hu.1
    apply Ev.step
    · intro k
      simp only [tracerylaw02_RingTurns.j0]
      rw [if_neg (by simp), wrap_id _ (by omega)]
    have hT : Ev (fun k => traceryref02_Turned.f k l (a : Int)) (rot l (a % l.length)) := ref_turned_l0 l (by omega) a (by omega) _ 0 [] rfl (by omega) (by simp)
    have hA := about_ev l (by omega)
    have hA2 := about_ev l.reverse (by simp; omega)
    rw [List.reverse_reverse] at hA2
    have hE := ref_eq_ev l l (by omega)
    rw [decide_eq_true rfl] at hE
    by_cases h0 : l.length = 0
    · have hnil : l = [] := List.eq_nil_of_length_eq_zero h0
      subst hnil
      have hr0 : rot ([] : List Int) (a % ([] : List Int).length) = [] := by simp [rot]
      rw [hr0] at hT
      refine Ev.bind hT ?_
      refine Ev.bind (same_ev [] [] (by simp) rfl (.inl rfl)) ?_
      simp only [if_true]
      refine Ev.bind (g := fun k => ring_First.f k []) (a := []) (Ev.now _) ?_
      refine Ev.bind (same_ev [] [] (by simp) rfl (.inl rfl)) ?_
      simp only [if_true]
      refine Ev.bind hA ?_
      refine Ev.bind hA2 ?_
      refine Ev.bind hE ?_
      simp only [if_true]
      refine Ev.bind hA ?_
      refine Ev.bind (about_ev [] (by simp)) ?_
      refine Ev.bind (same_ev [].reverse [].reverse (by simp) rfl (.inl rfl)) ?_
      exact Ev.now _
    · have hm := Nat.mod_lt a (show 0 < l.length by omega)
      have hr := rot_length l (a % l.length) (by omega)
      obtain ⟨i, hi, hF⟩ := first_ev l (by omega) h0
      have hri := rot_length l i (by omega)
      refine Ev.bind hT ?_
      refine Ev.bind (same_ev l (rot l (a % l.length)) (by omega) (by omega) (.inr ?_)) ?_
      · by_cases hz : a % l.length = 0
        · exact ⟨0, by omega, by rw [hz, rot_zero, rot_zero]⟩
        · exact ⟨l.length - a % l.length, by omega, (rot_rot l _ (by omega)).symm⟩
      simp only [if_true]
      refine Ev.bind hF ?_
      refine Ev.bind (same_ev (rot l i) l (by omega) hri (.inr ⟨i, hi, rfl⟩)) ?_
      simp only [if_true]
      refine Ev.bind hA ?_
      refine Ev.bind hA2 ?_
      refine Ev.bind hE ?_
      simp only [if_true]
      refine Ev.bind hA ?_
      refine Ev.bind (about_ev (rot l (a % l.length)) (by omega)) ?_
      refine Ev.bind (same_ev l.reverse (rot l (a % l.length)).reverse (by simp; omega) (by simp; omega) (.inr ⟨a % l.length, by simp; omega, (reverse_rot l _ (by omega)).symm⟩)) ?_
      exact Ev.now _

end Go.Proofs.Ytcfclhlgjpidhaa.PA
