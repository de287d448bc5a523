/- FE, part 31: regions, in whatever order is drawn. -/
import Derived.Test.YtbgefphoochgcaaFeRegT
namespace Go.Proofs.Ytbgefphoochgcaa.FE
open Go
set_option linter.unusedVariables false
set_option linter.unusedSimpArgs false

/-! ### what comes before what -/
def befOf (bs : Array Nat) (o : Oper) : Nat := o.after.foldl (fun s e => if Region.binds .any e then s ||| 2 ^ e.on ||| bs.getD e.on 0 else s) 0
theorem befOf_bit {bs : Array Nat} {o : Oper} {j : Nat} (h : (befOf bs o).testBit j = true) : ∃ e ∈ o.after.toList, Region.binds .any e = true ∧ (j = e.on ∨ (bs.getD e.on 0).testBit j = true) := by
  unfold befOf at h
  rw [← Array.foldl_toList] at h
  have key : ∀ (l : List Edge) (s : Nat), (l.foldl (fun s e => if Region.binds .any e then s ||| 2 ^ e.on ||| bs.getD e.on 0 else s) s).testBit j = true → s.testBit j = true ∨ ∃ e ∈ l, Region.binds .any e = true ∧ (j = e.on ∨ (bs.getD e.on 0).testBit j = true) := by
    intro l
    induction l with
    | nil => intro s h; exact .inl h
    | cons e r ih =>
      intro s h
      rcases ih _ h with h | ⟨e', he, h⟩
      · simp only [] at h
        split at h
        · rename_i hb
          rw [Nat.testBit_or, Nat.testBit_or, Bool.or_eq_true, Bool.or_eq_true] at h
          rcases h with (h | h) | h
          · exact .inl h
          · rw [Nat.testBit_two_pow] at h
            exact .inr ⟨e, by simp, hb, .inl (by simp at h; exact h.symm)⟩
          · exact .inr ⟨e, by simp, hb, .inr h⟩
        · exact .inl h
      · exact .inr ⟨e', by simp [he], h⟩
  rcases key _ 0 h with h | h
  · simp at h
  · exact h
/-- The array, place by place. -/
theorem before_at {ops : Array Oper} : ∀ {i : Nat} {o : Oper}, ops[i]? = some o → ∃ bs : Array Nat, bs.size = i ∧ (∀ k, k < i → bs[k]? = (Region.before ops)[k]?) ∧ (Region.before ops)[i]? = some (befOf bs o) := by
  have key : ∀ (l : List Oper) (acc : Array Nat), (∀ k, k < acc.size → (l.foldl (fun acc o => acc.push (befOf acc o)) acc)[k]? = acc[k]?) ∧
      ∀ i o, l[i]? = some o → ∃ bs : Array Nat, bs.size = acc.size + i ∧ (∀ k, k < acc.size + i → bs[k]? = (l.foldl (fun acc o => acc.push (befOf acc o)) acc)[k]?) ∧ (l.foldl (fun acc o => acc.push (befOf acc o)) acc)[acc.size + i]? = some (befOf bs o) := by
    intro l
    induction l with
    | nil => intro acc; exact ⟨fun k _ => rfl, fun i o h => by simp at h⟩
    | cons x r ih =>
      intro acc
      obtain ⟨h1, h2⟩ := ih (acc.push (befOf acc x))
      rw [Array.size_push] at h1 h2
      refine ⟨fun k hk => ?_, fun i o h => ?_⟩
      · rw [List.foldl_cons, h1 k (by omega), Array.getElem?_push, if_neg (by omega)]
      · rw [List.foldl_cons]
        cases i with
        | zero =>
          simp at h
          subst h
          refine ⟨acc, rfl, fun k hk => ?_, ?_⟩
          · rw [h1 k (by omega), Array.getElem?_push, if_neg (by omega)]
          · rw [Nat.add_zero, h1 acc.size (by omega), Array.getElem?_push, if_pos rfl]
        | succ i =>
          obtain ⟨bs, e1, e2, e3⟩ := h2 i o (by simpa using h)
          refine ⟨bs, by omega, fun k hk => e2 k (by omega), ?_⟩
          rw [show acc.size + (i + 1) = acc.size + 1 + i by omega]
          exact e3
  intro i o h
  have hb : Region.before ops = ops.toList.foldl (fun acc o => acc.push (befOf acc o)) #[] := by
    unfold Region.before
    rw [← Array.foldl_toList]
    rfl
  obtain ⟨bs, e1, e2, e3⟩ := (key ops.toList #[]).2 i o (by simpa using h)
  rw [← hb] at e2 e3
  simp only [List.size_toArray, List.length_nil, Nat.zero_add] at e1 e2 e3
  exact ⟨bs, e1, e2, e3⟩
/-- What an operation's edges lead to, and what is behind them. -/
theorem before_bit {ops : Array Oper} {i j : Nat} {o : Oper} (ho : ops[i]? = some o) (h : ((Region.before ops).getD i 0).testBit j = true) : ∃ e ∈ o.after.toList, Region.binds .any e = true ∧ (j = e.on ∨ (e.on < i ∧ ((Region.before ops).getD e.on 0).testBit j = true)) := by
  obtain ⟨bs, e1, e2, e3⟩ := before_at ho
  rw [Array.getD_eq_getD_getElem?, e3] at h
  obtain ⟨e, he, hb, hj⟩ := befOf_bit h
  refine ⟨e, he, hb, hj.imp id fun hj => ?_⟩
  by_cases hlt : e.on < i
  · refine ⟨hlt, ?_⟩
    rw [Array.getD_eq_getD_getElem?, ← e2 e.on hlt, ← Array.getD_eq_getD_getElem?]
    exact hj
  · rw [Array.getD_eq_getD_getElem?, Array.getElem?_eq_none (by omega)] at hj
    simp at hj
theorem before_some {ops : Array Oper} {i j : Nat} (h : ((Region.before ops).getD i 0).testBit j = true) : ∃ o, ops[i]? = some o := by
  cases ho : ops[i]? with
  | some o => exact ⟨o, rfl⟩
  | none =>
    have hs : (Region.before ops).size = ops.size := by
      unfold Region.before
      rw [← Array.foldl_toList]
      have : ∀ (l : List Oper) (acc : Array Nat), (l.foldl (fun acc o => acc.push (o.after.foldl (fun s e => if Region.binds .any e then s ||| 2 ^ e.on ||| acc.getD e.on 0 else s) 0)) acc).size = acc.size + l.length := by
        intro l
        induction l with
        | nil => intro acc; rfl
        | cons x r ih => intro acc; rw [List.foldl_cons, ih, Array.size_push, List.length_cons]; omega
      rw [this]; simp
    have : ops.size ≤ i := by
      rcases Nat.lt_or_ge i ops.size with h' | h'
      · rw [Array.getElem?_eq_getElem h'] at ho; cases ho
      · exact h'
    rw [Array.getD_eq_getD_getElem?, Array.getElem?_eq_none (by omega)] at h
    simp at h
/-- A set that holds what its members' edges lead to holds what comes before them. -/
theorem before_closed {ops : Array Oper} {L : Nat → Prop} (hL : ∀ i o, L i → ops[i]? = some o → ∀ e ∈ o.after.toList, Region.binds .any e = true → L e.on) : ∀ (n i j : Nat) (o : Oper), i < n → ops[i]? = some o → (∀ e ∈ o.after.toList, Region.binds .any e = true → L e.on) →
    ((Region.before ops).getD i 0).testBit j = true → L j := by
  intro n
  induction n with
  | zero => intro i j o h; omega
  | succ n ih =>
    intro i j o hi ho he h
    obtain ⟨e, h1, h2, h3⟩ := before_bit ho h
    rcases h3 with rfl | ⟨h3, h4⟩
    · exact he e h1 h2
    · obtain ⟨o', ho'⟩ := before_some h4
      exact ih e.on j o' (by omega) ho' (hL _ _ (he e h1 h2) ho') h4
theorem backE_spec {i : Nat} : ∀ {l : List Edge}, backE i l = true → ∀ e ∈ l, Region.binds .any e = true → e.on < i
  | [], _, e, h, _ => by cases h
  | x :: r, hb, e, h, hbe => by
    simp only [backE] at hb
    split at hb
    · rename_i hx
      rcases List.mem_cons.1 h with rfl | h
      · rw [hbe] at hx; exact Nat.le_of_ble_eq_true hx
      · exact backE_spec hb e h hbe
    · cases hb
theorem backB_spec : ∀ {l : List Oper} {i : Nat}, backB i l = true → ∀ k o, l[k]? = some o → ∀ e ∈ o.after.toList, Region.binds .any e = true → e.on < i + k
  | [], i, _, k, o, h => by simp at h
  | x :: r, i, hb, k, o, h => by
    simp only [backB] at hb
    split at hb
    · rename_i hx
      cases k with
      | zero =>
        simp at h
        subst h
        exact backE_spec hx
      | succ k =>
        have := backB_spec hb k o (by simpa using h)
        rw [show i + (k + 1) = i + 1 + k by omega]
        exact this
    · cases hb
theorem before_lt {ops : Array Oper} (hb : backB 0 ops.toList = true) : ∀ (n i j : Nat), i < n → ((Region.before ops).getD i 0).testBit j = true → j < i := by
  intro n
  induction n with
  | zero => intro i j h; omega
  | succ n ih =>
    intro i j hi h
    obtain ⟨o, ho⟩ := before_some h
    obtain ⟨e, h1, h2, h3⟩ := before_bit ho h
    have he := backB_spec hb i o (by simpa using ho) e h1 h2
    rcases h3 with rfl | ⟨h3, h4⟩
    · omega
    · have := ih e.on j (by omega) h4
      omega
end Go.Proofs.Ytbgefphoochgcaa.FE
