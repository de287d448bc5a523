/- What package ring answers, in lists: what several laws lean on. -/
import Derived.Test.YtcfclhlgjpidhaaPAx13
import Derived.Test.YtcfclhlgjpidhaaPAx11
import Derived.Test.YtcfclhlgjpidhaaPAx7
import Derived.Test.YtcfclhlgjpidhaaPAx14
namespace Go.Proofs.Ytcfclhlgjpidhaa.PA
open Go.RowKit Go.Proofs.YtcfclhlgjpidhaaW.PrintWords Go.Proofs.YtcfclhlgjpidhaaW.PrintLast

/-- A list begun at place i. -/
def rot (l : List Int) (i : Nat) : List Int := l.drop i ++ l.take i
theorem rot_length (l : List Int) (i : Nat) (h : i ≤ l.length) : (rot l i).length = l.length := by simp [rot]; omega
theorem rot_len (l : List Int) (i : Nat) : (rot l i).length = l.length := by simp [rot]; omega
theorem rot_get (l : List Int) (i j : Nat) (hi : i < l.length) (hj : j < l.length) : rd (rot l i) j = rd l (((i + j) % l.length : Nat) : Int) := by
  unfold rd rot
  simp only [Int.toNat_natCast, List.getD_eq_getElem?_getD]
  rw [List.getElem?_append]
  simp only [List.length_drop]
  by_cases h : j < l.length - i
  · rw [if_pos h, List.getElem?_drop, Nat.mod_eq_of_lt (by omega)]
  · rw [if_neg h, List.getElem?_take_of_lt (by omega)]
    congr 2
    rw [Nat.mod_eq_sub_mod (by omega), Nat.mod_eq_of_lt (by omega)]
    omega

theorem turned_some (l : List Int) (hl : l.length ≤ 1000000) (i : Nat) (hi : i ≤ l.length) (h0 : l.length ≠ 0) : ring_turned.f l i = some (rot l i) := by
  unfold ring_turned.f rot
  rw [if_pos hl, if_neg h0, if_pos ⟨by omega, by omega⟩, Int.toNat_natCast]

theorem tmod_nat (a : Int) (n : Nat) (h : 0 ≤ a) : Int.tmod a n = ((a.toNat % n : Nat) : Int) := by
  rw [Int.tmod_eq_emod_of_nonneg h]
  obtain ⟨b, rfl⟩ := Int.eq_ofNat_of_zero_le h
  simp

theorem from_ev (l : List Int) (hl : l.length ≤ 1000000) (x : Int) : Ev (fun k => ring_From.f k l x) (if findI l x < 0 then ([], false) else (rot l (findI l x).toNat, true)) := by
  unfold ring_From.f
  refine Ev.bind (index_ev l (by omega) x) ?_
  have hlt := findI_lt l x
  by_cases h : findI l x < 0
  · simp only [h, if_true]
    exact Ev.now _
  · simp only [h, if_false]
    have e : ring_turned.f l (findI l x) = some (rot l (findI l x).toNat) := by
      have := turned_some l hl (findI l x).toNat (by omega) (by omega)
      rwa [Int.toNat_of_nonneg (by omega)] at this
    rw [e]
    exact Ev.now _

theorem awake_ev : Ev (fun k => tracerylaw02_awake.f k) true := Ev.of (fun k => tracerylaw02_awake.mono k) (k := 30) (by kernel_rfl)

theorem list_ext_rd {a b : List Int} (h : a.length = b.length) (hr : ∀ j : Nat, j < a.length → rd a j = rd b j) : a = b := by
  refine List.ext_getElem h (fun j h1 h2 => ?_)
  have := hr j h1
  rwa [rd_nat a j h1, rd_nat b j h2] at this
theorem ref_eq_l0 (a b : List Int) (hl : a.length = b.length) (ha : a.length ≤ 1000000) : ∀ (d i : Nat), a.length - i = d → i ≤ a.length → (∀ j : Nat, j < i → rd a j = rd b j) → Ev (fun k => traceryref02_Equal.l0 k a b i) (decide (a = b))
  | 0, i => fun hd hi h => by
    rw [decide_eq_true (list_ext_rd hl (fun j hj => h j (by omega)))]
    refine Ev.step (f := fun _ => some true) (fun k => ?_) (Ev.now _)
    simp only [traceryref02_Equal.l0]
    rw [if_neg (by omega)]
  | d + 1, i => fun hd hi h => by
    by_cases he : rd a i = rd b i
    · refine Ev.step (f := fun k => traceryref02_Equal.l0 k a b ((i + 1 : Nat) : Int)) (fun k => ?_) (ref_eq_l0 a b hl ha d (i + 1) (by omega) (by omega) (fun j hj => by
        rcases Nat.lt_or_ge j i with h1 | h1
        · exact h j h1
        · obtain rfl : j = i := by omega
          exact he))
      simp only [traceryref02_Equal.l0]
      rw [if_pos (by omega), if_pos (by omega), if_pos (by omega), if_pos he, wrap_id _ (by omega)]
      rfl
    · rw [decide_eq_false (fun e => he (by rw [e]))]
      refine Ev.step (f := fun _ => some false) (fun k => ?_) (Ev.now _)
      simp only [traceryref02_Equal.l0]
      rw [if_pos (by omega), if_pos (by omega), if_pos (by omega), if_neg he]
theorem ref_eq_ev (a b : List Int) (ha : a.length ≤ 1000000) : Ev (fun k => traceryref02_Equal.f k a b) (decide (a = b)) := by
  unfold traceryref02_Equal.f
  by_cases h : (a.length : Int) = (b.length : Int)
  · simp only [h, if_true]
    exact ref_eq_l0 a b (by omega) ha _ 0 rfl (by omega) (fun j hj => by omega)
  · simp only [h, if_false]
    rw [decide_eq_false (fun e => h (by rw [e]))]
    exact Ev.now _

/-- One ring: from place i on, some place j gives the list. -/
theorem find_l0 (l : List Int) (hl : l.length ≤ 1000000) (x : Int) : ∀ (d i : Nat), l.length - i = d → (∀ j : Nat, j < i → rd l j ≠ x) → Ev (fun k => traceryref02_Find.l0 k l x i) (findI l x)
  | 0, i => fun hd h => by
    refine Ev.step (f := fun _ => some (findI l x)) (fun k => ?_) (Ev.now _)
    simp only [traceryref02_Find.l0]
    rw [if_neg (by omega), findI_none (fun j hj => h j (by omega))]
  | d + 1, i => fun hd h => by
    have hi : i < l.length := by omega
    by_cases hx : rd l i = x
    · refine Ev.step (f := fun _ => some (findI l x)) (fun k => ?_) (Ev.now _)
      simp only [traceryref02_Find.l0]
      rw [if_pos (by omega), if_pos (by omega), if_pos hx, findI_at hi (by rw [← hx, rd_nat l i hi]) h]
    · refine Ev.step (f := fun k => traceryref02_Find.l0 k l x ((i + 1 : Nat) : Int)) (fun k => ?_) (find_l0 l hl x d (i + 1) (by omega) (fun j hj => by
        rcases Nat.lt_or_ge j i with h1 | h1
        · exact h j h1
        · obtain rfl : j = i := by omega
          exact hx))
      simp only [traceryref02_Find.l0]
      rw [if_pos (by omega), if_pos (by omega), if_neg hx, wrap_id _ (by omega)]
      rfl
theorem find_ev (l : List Int) (hl : l.length ≤ 1000000) (x : Int) : Ev (fun k => traceryref02_Find.f k l x) (findI l x) := find_l0 l hl x _ 0 rfl (fun j hj => by omega)
end Go.Proofs.Ytcfclhlgjpidhaa.PA
