/- The laws RingParts and RingStays, in lists. -/
import Derived.Test.YtcfclhlgjpidhaaRingBase
import Derived.Test.YtcfclhlgjpidhaaPAx33
import Derived.Test.YtcfclhlgjpidhaaPAx36
namespace Go.Proofs.Ytcfclhlgjpidhaa.PA
open Go.RowKit Go.Proofs.YtcfclhlgjpidhaaW.PrintWords Go.Proofs.YtcfclhlgjpidhaaW.PrintLast

theorem put_ev (l m : List Int) (hl : l.length ≤ 1000000) (hm : m.length ≤ 1000000) (x : Int) : Ev (fun k => ring_Put.f k l x m) (if findI l x < 0 then ([], false) else (l.take (findI l x).toNat ++ m ++ l.drop ((findI l x).toNat + 1), true)) := by
  unfold ring_Put.f
  refine Ev.bind (index_ev l (by omega) x) ?_
  have hlt := findI_lt l x
  by_cases h : findI l x < 0
  · simp only [h, if_true]
    exact Ev.now _
  · obtain ⟨i, hi⟩ := Int.eq_ofNat_of_zero_le (show 0 ≤ findI l x by omega)
    rw [hi]
    rw [hi] at hlt h
    simp only [h, if_false]
    have hpos : 0 < l.length := by omega
    have hw : wrap64 ((i : Int) + 1) = ((i + 1 : Nat) : Int) := by rw [wrap_id _ (by omega)]; rfl
    rw [hw]
    simp only [Int.toNat_natCast]
    refine Ev.congr (fun k => by rw [if_pos (by omega), if_pos (by omega), if_pos (by omega), if_pos (by omega)]) ?_
    have hc := concat_ev [l.take i, m, l.drop (i + 1)] (by simp) (by simp; omega)
    refine Ev.bind hc ?_
    have e : [l.take i, m, l.drop (i + 1)].flatten = l.take i ++ m ++ l.drop (i + 1) := by simp
    rw [e]
    exact Ev.now _

theorem stays_pure : tracerylaw02_RingStays.Pure := by
  intro l a _ _ _ _
  apply Ev.rounds
  unfold tracerylaw02_RingStays.f
  refine Ev.bind awake_ev ?_
  simp only [if_true]
  by_cases h : (l.length : Int) > 100
  · rw [decide_eq_true h]
    exact Ev.step (f := fun k => (tracerylaw02_awake.f k).bind fun t194 => (some t194)) (fun k => by simp only [tracerylaw02_RingStays.j0]; rw [if_pos trivial]) (Ev.bind awake_ev (Ev.now _))
  · rw [decide_eq_false h]
    apply Ev.step
    · intro k
      simp only [tracerylaw02_RingStays.j0]
      rw [if_neg (by simp)]
    refine Ev.bind (put_ev l [a] (by omega) (by simp) a) ?_
    refine Ev.bind (from_ev l (by omega) a) ?_
    refine Ev.bind (g := fun k => ring_KeepAll.f l) (a := l) (by unfold ring_KeepAll.f; rw [if_pos (by omega)]; exact Ev.now _) ?_
    have hE := ref_eq_ev l l (by omega)
    rw [decide_eq_true rfl] at hE
    refine Ev.bind hE ?_
    simp only [if_true]
    have hlt := findI_lt l a
    by_cases hf : findI l a < 0
    · simp only [hf, if_true]
      exact Ev.now _
    · obtain ⟨i, hi⟩ := Int.eq_ofNat_of_zero_le (show 0 ≤ findI l a by omega)
      have hm : a ∈ l := (findI_nonneg l a).1 (by omega)
      have hil : i < l.length := by omega
      have hget : l[i] = a := by
        have hn := findN_get (findN_lt hm)
        have hi2 := hi
        unfold findI at hi2
        rw [if_pos hm] at hi2
        obtain rfl : findN l a = i := by omega
        exact hn
      rw [hi]
      rw [hi] at hf
      simp only [hf, if_false, Int.toNat_natCast]
      have e1 : l.take i ++ [a] ++ l.drop (i + 1) = l := by
        rw [← hget, ← List.take_succ_eq_append_getElem hil, List.take_append_drop]
      rw [e1]
      refine Ev.bind hE ?_
      have h0 : rd (rot l i) 0 = a := by
        have := rot_get l i 0 hil (by omega)
        rw [Nat.add_zero, Nat.mod_eq_of_lt hil] at this
        rw [show (0 : Int) = ((0 : Nat) : Int) from rfl, this, rd_nat l i hil, hget]
      simp only [if_true]
      rw [h0, rot_len, if_pos rfl, if_pos (by omega)]
      simp only [beq_self_eq_true]
      exact Ev.now _

theorem parts_l0 (l m : List Int) (x : Int) (hl : l.length ≤ 100) (r : Bool) (hend : Ev (fun k => tracerylaw02_RingParts.l0 k l m x (l.filter fun x => Int.tmod x 2 == 0) ((l.filter fun x => Int.tmod x 2 == 0).length : Int) (l.length : Int)) r) :
    ∀ (d i : Nat), l.length - i = d → i ≤ l.length → Ev (fun k => tracerylaw02_RingParts.l0 k l m x (l.filter fun x => Int.tmod x 2 == 0) (((l.take i).filter fun x => Int.tmod x 2 == 0).length : Int) (i : Int)) r
  | 0, i => fun hd hi => by
    obtain rfl : i = l.length := by omega
    rw [List.take_length]
    exact hend
  | d + 1, i => fun hd hi => by
    have hi' : i < l.length := by omega
    have ih := parts_l0 l m x hl r hend d (i + 1) (by omega) (by omega)
    have et : l.take (i + 1) = l.take i ++ [l[i]] := List.take_succ_eq_append_getElem hi'
    have ek : l.filter (fun x => Int.tmod x 2 == 0) = (l.take i).filter (fun x => Int.tmod x 2 == 0) ++ ((l[i] :: l.drop (i + 1)).filter fun x => Int.tmod x 2 == 0) := by
      rw [← List.filter_append, ← List.drop_eq_getElem_cons hi', List.take_append_drop]
    have hfl : (l.filter fun x => Int.tmod x 2 == 0).length ≤ l.length := List.length_filter_le _ _
    have hft : ((l.take i).filter fun x => Int.tmod x 2 == 0).length ≤ (l.take i).length := List.length_filter_le _ _
    rw [List.length_take] at hft
    by_cases hp : (Int.tmod l[i] 2 == 0) = true
    · rw [et, List.filter_append, show [l[i]].filter (fun x => Int.tmod x 2 == 0) = [l[i]] from by rw [List.filter_cons, if_pos hp]; rfl] at ih
      simp only [List.length_append, List.length_singleton] at ih
      have ek2 := ek
      rw [List.filter_cons, if_pos hp] at ek2
      have hlen : ((l.take i).filter fun x => Int.tmod x 2 == 0).length < (l.filter fun x => Int.tmod x 2 == 0).length := by
        rw [ek2]; simp
      have hget : rd (l.filter fun x => Int.tmod x 2 == 0) (((l.take i).filter fun x => Int.tmod x 2 == 0).length : Int) = l[i] := by
        rw [rd_nat _ _ hlen]
        have : ∀ (p q : List Int) (y : Int) (k : List Int) (hk : p.length < k.length), k = p ++ y :: q → k[p.length] = y := by
          intro p q y k hk e
          subst e
          simp
        exact this _ _ _ _ hlen ek2
      refine Ev.step (fun k => ?_) ih
      simp only [tracerylaw02_RingParts.l0, tracerylaw02_even.f]
      rw [if_pos (by omega), if_pos (by omega), rd_nat l i hi', hp]
      simp only [Option.bind_some, if_true]
      rw [if_neg (by omega), if_pos (by omega), if_pos (by omega), hget, if_pos rfl, wrap_id _ (by omega), wrap_id _ (by omega)]
      rfl
    · rw [et, List.filter_append, show [l[i]].filter (fun x => Int.tmod x 2 == 0) = [] from by rw [List.filter_cons, if_neg hp]; rfl, List.append_nil] at ih
      refine Ev.step (fun k => ?_) ih
      simp only [tracerylaw02_RingParts.l0, tracerylaw02_even.f]
      rw [if_pos (by omega), if_pos (by omega), rd_nat l i hi', Bool.eq_false_iff.mpr hp]
      simp only [Option.bind_some, if_false, Bool.false_eq_true]
      rw [wrap_id _ (by omega)]
      rfl

theorem parts_pure : tracerylaw02_RingParts.Pure := by
  intro l m a _ _ _ _ _ _ _
  apply Ev.rounds
  unfold tracerylaw02_RingParts.f
  refine Ev.bind awake_ev ?_
  simp only [if_true]
  have hj : Ev (fun k => tracerylaw02_RingParts.j0 k l m a true) true :=
    Ev.step (f := fun k => (tracerylaw02_awake.f k).bind fun t194 => (some t194)) (fun k => by simp only [tracerylaw02_RingParts.j0]; rw [if_pos trivial]) (Ev.bind awake_ev (Ev.now _))
  by_cases h : (l.length : Int) > 100
  · exact Ev.congr (fun k => by rw [if_pos h]) hj
  refine Ev.congr (fun k => by rw [if_neg h]) ?_
  by_cases h1 : (m.length : Int) > 100
  · rw [decide_eq_true h1]; exact hj
  rw [decide_eq_false h1]
  clear hj
  refine Ev.step (f := fun k => tracerylaw02_RingParts.l0 k l m a (l.filter fun x => Int.tmod x 2 == 0) 0 0) (fun k => by simp only [tracerylaw02_RingParts.j0, ring_KeepEven.f]; rw [if_neg (by simp), if_pos (by omega)]; rfl) ?_
  refine parts_l0 l m a (by omega) true ?_ l.length 0 (by omega) (by omega)
  apply Ev.step
  · intro k
    simp only [tracerylaw02_RingParts.l0]
    rw [if_neg (by omega), if_pos trivial]
  refine Ev.bind (put_ev l m (by omega) (by omega) a) ?_
  refine Ev.bind (find_ev l (by omega) a) ?_
  have hlt := findI_lt l a
  by_cases hf : findI l a < 0
  · simp only [hf, if_true, Bool.false_eq_true, if_false]
    exact Ev.now _
  · obtain ⟨i, hi⟩ := Int.eq_ofNat_of_zero_le (show 0 ≤ findI l a by omega)
    have hil : i < l.length := by
      have hpos : 0 ≤ findI l a := by omega
      have hm : a ∈ l := (findI_nonneg l a).1 hpos
      have := List.length_pos_of_mem hm
      omega
    rw [hi]
    rw [hi] at hf
    simp only [hf, if_false, Int.toNat_natCast]
    have hw : wrap64 ((i : Int) + 1) = ((i + 1 : Nat) : Int) := by rw [wrap_id _ (by omega)]; rfl
    rw [hw]
    simp only [Option.bind_some, List.nil_append, List.length_nil, List.length_append, List.length_take, List.length_drop, Int.toNat_natCast]
    refine Ev.congr (fun k => by rw [if_pos (by omega), if_pos (by omega), if_pos (by omega), if_pos (by omega), if_pos (by omega), if_pos (by omega), if_pos (by omega), if_pos trivial]) ?_
    have hE := ref_eq_ev (l.take i ++ m ++ l.drop (i + 1)) (l.take i ++ m ++ l.drop (i + 1)) (by simp; omega)
    rw [decide_eq_true rfl] at hE
    exact Ev.bind hE (Ev.now _)
end Go.Proofs.Ytcfclhlgjpidhaa.PA
