/- Plain words for what FE prints: what holds for all fuel from some on; loops; lists. -/
import Derived.Test.YtbgefphoochgcaaFeRow
import Derived.Test.YtbgefphoochgcaaFeOpen
import Derived.Laws.BitsLemmas
namespace Go.Proofs.Ytbgefphoochgcaa.FE
open Go
set_option linter.unusedVariables false
set_option linter.unusedSimpArgs false
/-- From some fuel on. -/
def EvS {γ : Sort _} (f : Nat → γ) (g : γ) : Prop := ∃ K, ∀ k, K ≤ k → f k = g
theorem EvS.const {γ : Sort _} (g : γ) : EvS (fun _ => g) g := ⟨0, fun _ _ => rfl⟩
theorem EvS.of {γ : Sort _} {f : Nat → γ} {g : γ} (h : ∀ k, f k = g) : EvS f g := ⟨0, fun k _ => h k⟩
theorem EvS.bind {α β : Type} {f : Nat → Option α} {y : α} {g : Nat → α → Option β} {z : Option β} (hf : EvS f (some y)) (hg : EvS (fun k => g k y) z) : EvS (fun k => (f k).bind (g k)) z := by
  obtain ⟨K, h⟩ := hf
  obtain ⟨L, k⟩ := hg
  exact ⟨max K L, fun n hn => by show (f n).bind (g n) = z; rw [h n (by omega)]; exact k n (by omega)⟩
theorem EvS.step {γ : Sort _} {f f' : Nat → γ} {g : γ} (e : ∀ k, f k = f' k) (h : EvS f' g) : EvS f g := by
  obtain ⟨K, h⟩ := h
  exact ⟨K, fun k hk => (e k).trans (h k hk)⟩
theorem EvS.both {γ δ : Sort _} {f : Nat → γ} {g : γ} {f' : Nat → δ} {g' : δ} (h : EvS f g) (h' : EvS f' g') : ∃ K, ∀ k, K ≤ k → f k = g ∧ f' k = g' := by
  obtain ⟨K, h⟩ := h
  obtain ⟨L, k⟩ := h'
  exact ⟨max K L, fun n hn => ⟨h n (by omega), k n (by omega)⟩⟩
theorem EvS.some {α : Type} {f : Nat → Option α} {y : α} (h : EvS f (.some y)) : ∃ k, f k = .some y := by
  obtain ⟨K, h⟩ := h
  exact ⟨K, h K (Nat.le_refl _)⟩
/-- A loop. -/
theorem loop_ev {α β : Type} {step : Nat → (α → Option β) → α → Option β} (Inv : α → Prop) (μ : α → Nat) (R : α → Option β)
    (h : ∀ a, Inv a → EvS (fun k self => step k self a) (fun _ => R a) ∨ ∃ a', Inv a' ∧ μ a' < μ a ∧ R a' = R a ∧ EvS (fun k self => step k self a) (fun self => self a')) (a : α) (ha : Inv a) :
    EvS (fun k => iter (step k) k a) (R a) := by
  have main : ∀ n a, μ a = n → Inv a → ∃ K, ∀ k m, K ≤ k → K ≤ m → iter (step k) m a = R a := by
    intro n
    induction n using Nat.strongRecOn with
    | _ n ih =>
      intro a hn ha
      rcases h a ha with ⟨K, hK⟩ | ⟨a', h1, h2, h3, K, hK⟩
      · refine ⟨K + 1, fun k m hk hm => ?_⟩
        cases m with
        | zero => omega
        | succ m => exact congrFun (hK k (by omega)) (iter (step k) m)
      · obtain ⟨L, hL⟩ := ih (μ a') (by omega) a' rfl h1
        refine ⟨max K L + 1, fun k m hk hm => ?_⟩
        cases m with
        | zero => omega
        | succ m =>
          rw [← h3, ← hL k m (by omega) (by omega)]
          exact congrFun (hK k (by omega)) (iter (step k) m)
  obtain ⟨K, hK⟩ := main _ a rfl ha
  exact ⟨K, fun k hk => hK k k hk hk⟩
/-- A loop that counts from i to n, with a state. -/
theorem count_from {σ β : Type} (n : Nat) (J : Nat → σ → Prop) (R : Nat → σ → Option β) {step : Nat → (Int × σ → Option β) → Int × σ → Option β}
    (hend : ∀ s, J n s → EvS (fun k self => step k self ((n : Int), s)) (fun _ => R n s))
    (hstep : ∀ i s, i < n → J i s → EvS (fun k self => step k self ((i : Int), s)) (fun _ => R i s) ∨ ∃ s', J (i + 1) s' ∧ R (i + 1) s' = R i s ∧ EvS (fun k self => step k self ((i : Int), s)) (fun self => self (((i + 1 : Nat) : Int), s')))
    (i : Nat) (hi : i ≤ n) (s : σ) (h0 : J i s) : EvS (fun k => iter (step k) k ((i : Int), s)) (R i s) := by
  refine loop_ev (fun a => ∃ j : Nat, a.1 = (j : Int) ∧ j ≤ n ∧ J j a.2) (fun a => n - a.1.toNat) (fun a => R a.1.toNat a.2) ?_ ((i : Int), s) ⟨i, rfl, hi, h0⟩
  rintro ⟨a, s⟩ ⟨j, e, hj, hJ⟩
  simp only at e hJ
  subst e
  simp only [Int.toNat_natCast]
  rcases Nat.lt_or_ge j n with h | h
  · rcases hstep j s h hJ with h1 | ⟨s', h1, h2, h3⟩
    · exact .inl h1
    · exact .inr ⟨(((j + 1 : Nat) : Int), s'), ⟨j + 1, rfl, h, h1⟩, by simp only [Int.toNat_natCast]; omega, by simpa only [Int.toNat_natCast] using h2, h3⟩
  · obtain rfl : j = n := by omega
    exact .inl (hend s hJ)
theorem count_ev {σ β : Type} (n : Nat) (J : Nat → σ → Prop) (R : Nat → σ → Option β) {step : Nat → (Int × σ → Option β) → Int × σ → Option β}
    (hend : ∀ s, J n s → EvS (fun k self => step k self ((n : Int), s)) (fun _ => R n s))
    (hstep : ∀ i s, i < n → J i s → EvS (fun k self => step k self ((i : Int), s)) (fun _ => R i s) ∨ ∃ s', J (i + 1) s' ∧ R (i + 1) s' = R i s ∧ EvS (fun k self => step k self ((i : Int), s)) (fun self => self (((i + 1 : Nat) : Int), s')))
    (s : σ) (h0 : J 0 s) : EvS (fun k => iter (step k) k ((0 : Int), s)) (R 0 s) := count_from n J R hend hstep 0 (Nat.zero_le _) s h0
/-- .. without. -/
theorem count_ev0 {β : Type} (n : Nat) (R : Nat → Option β) {step : Nat → (Int → Option β) → Int → Option β}
    (hend : EvS (fun k self => step k self (n : Int)) (fun _ => R n))
    (hstep : ∀ i, i < n → EvS (fun k self => step k self (i : Int)) (fun _ => R i) ∨ (R (i + 1) = R i ∧ EvS (fun k self => step k self (i : Int)) (fun self => self ((i + 1 : Nat) : Int)))) :
    EvS (fun k => iter (step k) k (0 : Int)) (R 0) := by
  refine loop_ev (fun a : Int => ∃ j : Nat, a = (j : Int) ∧ j ≤ n) (fun a => n - a.toNat) (fun a => R a.toNat) ?_ 0 ⟨0, rfl, Nat.zero_le _⟩
  rintro a ⟨j, rfl, hj⟩
  simp only [Int.toNat_natCast]
  rcases Nat.lt_or_ge j n with h | h
  · rcases hstep j h with h1 | ⟨h2, h3⟩
    · exact .inl h1
    · exact .inr ⟨((j + 1 : Nat) : Int), ⟨j + 1, rfl, h⟩, by simp only [Int.toNat_natCast]; omega, by simpa only [Int.toNat_natCast] using h2, h3⟩
  · obtain rfl : j = n := by omega
    exact .inl hend
/-- A loop, by what stays true. -/
theorem loop_inv {α β : Type} {step : Nat → (α → Option β) → α → Option β} (Inv : α → Prop) (μ : α → Nat) (Q : β → Prop)
    (h : ∀ a, Inv a → (∃ r, Q r ∧ EvS (fun k self => step k self a) (fun _ => some r)) ∨ ∃ a', Inv a' ∧ μ a' < μ a ∧ EvS (fun k self => step k self a) (fun self => self a')) (a : α) (ha : Inv a) :
    ∃ r, Q r ∧ EvS (fun k => iter (step k) k a) (some r) := by
  have main : ∀ n a, μ a = n → Inv a → ∃ r, Q r ∧ ∃ K, ∀ k m, K ≤ k → K ≤ m → iter (step k) m a = some r := by
    intro n
    induction n using Nat.strongRecOn with
    | _ n ih =>
      intro a hn ha
      rcases h a ha with ⟨r, hq, K, hK⟩ | ⟨a', h1, h2, K, hK⟩
      · refine ⟨r, hq, K + 1, fun k m hk hm => ?_⟩
        cases m with
        | zero => omega
        | succ m => exact congrFun (hK k (by omega)) (iter (step k) m)
      · obtain ⟨r, hq, L, hL⟩ := ih (μ a') (by omega) a' rfl h1
        refine ⟨r, hq, max K L + 1, fun k m hk hm => ?_⟩
        cases m with
        | zero => omega
        | succ m =>
          rw [← hL k m (by omega) (by omega)]
          exact congrFun (hK k (by omega)) (iter (step k) m)
  obtain ⟨r, hq, K, hK⟩ := main _ a rfl ha
  exact ⟨r, hq, K, fun k hk => hK k k hk hk⟩
theorem count_inv {σ β : Type} (n : Nat) (J : Nat → σ → Prop) (Q : β → Prop) {step : Nat → (Int × σ → Option β) → Int × σ → Option β}
    (hend : ∀ s, J n s → ∃ r, Q r ∧ EvS (fun k self => step k self ((n : Int), s)) (fun _ => some r))
    (hstep : ∀ i s, i < n → J i s → (∃ r, Q r ∧ EvS (fun k self => step k self ((i : Int), s)) (fun _ => some r)) ∨ ∃ s', J (i + 1) s' ∧ EvS (fun k self => step k self ((i : Int), s)) (fun self => self (((i + 1 : Nat) : Int), s')))
    (s : σ) (h0 : J 0 s) : ∃ r, Q r ∧ EvS (fun k => iter (step k) k ((0 : Int), s)) (some r) := by
  refine loop_inv (fun a => ∃ j : Nat, a.1 = (j : Int) ∧ j ≤ n ∧ J j a.2) (fun a => n - a.1.toNat) Q ?_ (0, s) ⟨0, rfl, Nat.zero_le _, h0⟩
  rintro ⟨a, s⟩ ⟨j, e, hj, hJ⟩
  simp only at e hJ
  subst e
  rcases Nat.lt_or_ge j n with h | h
  · rcases hstep j s h hJ with h1 | ⟨s', h1, h3⟩
    · exact .inl h1
    · exact .inr ⟨(((j + 1 : Nat) : Int), s'), ⟨j + 1, rfl, h, h1⟩, by simp only [Int.toNat_natCast]; omega, h3⟩
  · obtain rfl : j = n := by omega
    exact .inl (hend s hJ)
theorem count_inv0 {β : Type} (n : Nat) (J : Nat → Prop) (Q : β → Prop) {step : Nat → (Int → Option β) → Int → Option β}
    (hend : J n → ∃ r, Q r ∧ EvS (fun k self => step k self (n : Int)) (fun _ => some r))
    (hstep : ∀ i, i < n → J i → (∃ r, Q r ∧ EvS (fun k self => step k self (i : Int)) (fun _ => some r)) ∨ (J (i + 1) ∧ EvS (fun k self => step k self (i : Int)) (fun self => self ((i + 1 : Nat) : Int))))
    (h0 : J 0) : ∃ r, Q r ∧ EvS (fun k => iter (step k) k (0 : Int)) (some r) := by
  refine loop_inv (fun a : Int => ∃ j : Nat, a = (j : Int) ∧ j ≤ n ∧ J j) (fun a => n - a.toNat) Q ?_ 0 ⟨0, rfl, Nat.zero_le _, h0⟩
  rintro a ⟨j, rfl, hj, hJ⟩
  rcases Nat.lt_or_ge j n with h | h
  · rcases hstep j h hJ with h1 | ⟨h1, h3⟩
    · exact .inl h1
    · exact .inr ⟨((j + 1 : Nat) : Int), ⟨j + 1, rfl, h, h1⟩, by simp only [Int.toNat_natCast]; omega, h3⟩
  · obtain rfl : j = n := by omega
    exact .inl (hend hJ)
theorem w64 {x : Int} (h : -9223372036854775808 ≤ x ∧ x ≤ 9223372036854775807) : IntKind.i64.wrap x = x := by rw [IntKind.wrap_i64]; omega
theorem idx_nat {α : Type} (l : List α) (i : Nat) (h : i < l.length) : idx l (i : Int) = some l[i] := by simp [idx, h]
theorem lim_true {n : Nat} (h : n ≤ LIM) : limB n = true := by simp [limB, h]
theorem compact_spec (l : List Int) (hs : l.Pairwise (· ≤ ·)) : (Lib.compact l).Pairwise (· < ·) ∧ ∀ x, x ∈ Lib.compact l ↔ x ∈ l := by
  have key : ∀ m, m ≤ l.length → (Lib.compactUpTo l.toArray m).Pairwise (· < ·) ∧ ∀ x, x ∈ Lib.compactUpTo l.toArray m ↔ ∃ j, ∃ h : j < l.length, j < m ∧ l[j] = x := by
    intro m
    induction m with
    | zero => intro _; refine ⟨by simp [Lib.compactUpTo], fun x => by simp [Lib.compactUpTo]⟩
    | succ m ih =>
      intro hm
      obtain ⟨h1, h2⟩ := ih (by omega)
      have hget : l.toArray[m]! = l[m] := by simp [show m < l.length by omega]
      rw [Lib.compactUpTo_succ, hget]
      by_cases hk : Lib.keeps l.toArray m = true
      · rw [if_pos hk]
        have hgt : ∀ j (h : j < l.length), j < m → l[j] < l[m] := by
          intro j h hj
          have h3 : l[m] ≠ l[m - 1] := by
            intro e
            have : Lib.keeps l.toArray m = false := Lib.keeps_neg (by omega) (by simp [show m < l.length by omega, show m - 1 < l.length by omega, e])
            rw [this] at hk; cases hk
          have h4 : l[m - 1] ≤ l[m] := List.pairwise_iff_getElem.1 hs (m - 1) m (by omega) (by omega) (by omega)
          have h5 : l[j] ≤ l[m - 1] := by
            rcases Nat.lt_or_ge j (m - 1) with h6 | h6
            · exact List.pairwise_iff_getElem.1 hs j (m - 1) h (by omega) h6
            · have : j = m - 1 := by omega
              subst this; exact Int.le_refl _
          omega
        refine ⟨List.pairwise_append.2 ⟨h1, List.pairwise_singleton _ _, fun a ha b hb => ?_⟩, fun x => ?_⟩
        · obtain ⟨j, h, hj, rfl⟩ := (h2 a).1 ha
          rw [List.mem_singleton] at hb
          subst hb
          exact hgt j h hj
        · rw [List.mem_append, h2, List.mem_singleton]
          constructor
          · rintro (⟨j, h, hj, rfl⟩ | rfl)
            · exact ⟨j, h, by omega, rfl⟩
            · exact ⟨m, by omega, by omega, rfl⟩
          · rintro ⟨j, h, hj, rfl⟩
            rcases Nat.lt_or_ge j m with h6 | h6
            · exact .inl ⟨j, h, h6, rfl⟩
            · have : j = m := by omega
              subst this; exact .inr rfl
      · rw [if_neg hk, List.append_nil]
        refine ⟨h1, fun x => ?_⟩
        rw [h2]
        have h0 : 0 < m := by
          rcases Nat.eq_zero_or_pos m with h | h
          · subst h; exact absurd (Lib.keeps_lt_one l.toArray 0 (by omega)) hk
          · exact h
        have he : l[m] = l[m - 1] := Classical.byContradiction fun h => hk (Lib.keeps_pos (by simpa [show m < l.length by omega, show m - 1 < l.length by omega] using h))
        constructor
        · rintro ⟨j, h, hj, rfl⟩; exact ⟨j, h, by omega, rfl⟩
        · rintro ⟨j, h, hj, rfl⟩
          rcases Nat.lt_or_ge j m with h6 | h6
          · exact ⟨j, h, h6, rfl⟩
          · have : j = m := by omega
            subst this; exact ⟨j - 1, by omega, by omega, he.symm⟩
  obtain ⟨h1, h2⟩ := key l.length (Nat.le_refl _)
  refine ⟨h1, fun x => (h2 x).trans ⟨fun ⟨j, h, _, e⟩ => e ▸ List.getElem_mem h, fun h => ?_⟩⟩
  obtain ⟨j, hj, e⟩ := List.getElem_of_mem h
  exact ⟨j, hj, hj, e⟩
/-- Two lists that rise and have the same members. -/
theorem rise_unique : ∀ (a b : List Int), a.Pairwise (· < ·) → b.Pairwise (· < ·) → (∀ x, x ∈ a ↔ x ∈ b) → a = b
  | [], [], _, _, _ => rfl
  | [], y :: b, _, _, h => absurd ((h y).2 (List.mem_cons_self ..)) (by simp)
  | x :: a, [], _, _, h => absurd ((h x).1 (List.mem_cons_self ..)) (by simp)
  | x :: a, y :: b, ha, hb, h => by
    rw [List.pairwise_cons] at ha hb
    have hxy : x = y := by
      have h1 := (h x).1 (List.mem_cons_self ..)
      have h2 := (h y).2 (List.mem_cons_self ..)
      rcases List.mem_cons.1 h1 with e | e
      · exact e
      · rcases List.mem_cons.1 h2 with e' | e'
        · exact e'.symm
        · have := hb.1 x e; have := ha.1 y e'; omega
    subst hxy
    rw [rise_unique a b ha.2 hb.2 fun z => ⟨fun hz => ?_, fun hz => ?_⟩]
    · rcases List.mem_cons.1 ((h z).1 (List.mem_cons_of_mem _ hz)) with e | e
      · subst e; have := ha.1 z hz; omega
      · exact e
    · rcases List.mem_cons.1 ((h z).2 (List.mem_cons_of_mem _ hz)) with e | e
      · subst e; have := hb.1 z hz; omega
      · exact e
/-- Sorted and compact. -/
theorem sorted_spec (l : List Int) : (Lib.compact (isort l)).Pairwise (· < ·) ∧ ∀ x, x ∈ Lib.compact (isort l) ↔ x ∈ l := by
  obtain ⟨h1, h2⟩ := compact_spec _ (isort_sorted l)
  exact ⟨h1, fun x => (h2 x).trans (isort_perm l).mem_iff⟩
end Go.Proofs.Ytbgefphoochgcaa.FE
