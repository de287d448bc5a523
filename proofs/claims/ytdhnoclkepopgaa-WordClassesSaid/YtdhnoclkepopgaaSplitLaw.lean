/- What word.Split answers, byte by byte: stretches without blanks, blanks between them (plain Lean). -/
import Derived.Test.YtdhnoclkepopgaaPAx8
import Derived.Test.YtdhnoclkepopgaaPAx10
namespace Go.Proofs.Ytdhnoclkepopgaa.PA
open Go.RowKit Go.Proofs.YtdhnoclkepopgaaW.PrintWords Go.Proofs.YtdhnoclkepopgaaW.PrintLast

theorem awake_true : tracerylaw01_awake.f = some true := by kernel_rfl

theorem bt_get (s : ByteArray) (j : Nat) (h : j < s.size) : bt s j = ((s.get! j).toNat : Int) := by
  unfold bt
  rw [dif_pos (by simpa using h)]
  have := get_at s j h
  simp at this ⊢
  rw [this]

/-- The bytes of one rune: blanks, just if it is one. -/
theorem decode_blank (s : ByteArray) (p : Nat) (h : p < s.size) : ∀ j, p ≤ j → j < p + (Utf8.decode s p).2 → (bt s j = 32 ↔ (Utf8.decode s p).1 = 32) := by
  intro j h1 h2
  have hw := Text.width_le s p h
  rw [bt_get s j (by omega)]
  obtain ⟨i, rfl⟩ : ∃ i, j = p + i := ⟨j - p, by omega⟩
  have hi : i < (Utf8.decode s p).2 := by omega
  clear h1 h2 hw
  revert hi
  simp only [Utf8.decode]
  have e0 : s.get! (p + 0) = s.get! p := rfl
  repeat' split
  all_goals intro hi
  all_goals simp only [Bool.and_eq_true, beq_iff_eq, decide_eq_true_eq, Utf8.runeError, ge_iff_le] at *
  all_goals (
    obtain rfl | rfl | rfl | rfl : i = 0 ∨ i = 1 ∨ i = 2 ∨ i = 3 := by omega)
  all_goals first | omega | (simp only [Nat.add_zero] at *; omega)

/-- Words from place a on; b: there is one ahead. -/
inductive Chain (s : ByteArray) : Nat → Bool → List S26 → Prop
  | nil {a : Nat} {b : Bool} : a ≤ s.size → (∀ j, a ≤ j → j < s.size → bt s j = 32) → Chain s a b []
  | cons {a q e : Nat} {b : Bool} {l : List S26} : a ≤ q → (b = true → a < q) → q < e → e ≤ s.size → (∀ j, a ≤ j → j < q → bt s j = 32) → (∀ j, q ≤ j → j < e → bt s j ≠ 32) → Chain s e true l → Chain s a b (⟨q, s.extract q e⟩ :: l)

theorem splitGo_acc (s : ByteArray) : ∀ (l : List (Nat × Nat)) (q : Int) (acc : List S26), splitGo s l q acc = acc ++ splitGo s l q []
  | [], q, acc => by
    simp only [splitGo]
    split <;> simp
  | (p, r) :: l, q, acc => by
    simp only [splitGo]
    repeat' split
    · rw [splitGo_acc s l _ (acc ++ _), splitGo_acc s l _ ([] ++ _)]; simp
    all_goals exact splitGo_acc s l _ acc

theorem chain_go (s : ByteArray) : ∀ (f p : Nat) (q : Int) (a : Nat) (b : Bool), s.size ≤ p + f → p ≤ s.size → -1 ≤ q →
    (q < 0 → a ≤ p ∧ (∀ j, a ≤ j → j < p → bt s j = 32) ∧ (b = true → a < p)) →
    (0 ≤ q → a ≤ q ∧ q < p ∧ (∀ j : Nat, a ≤ j → j < q → bt s j = 32) ∧ (∀ j : Nat, q ≤ j → j < p → bt s j ≠ 32) ∧ (b = true → a < q)) →
    Chain s a b (splitGo s (Text.runes s f p) q [])
  | f, p, q, a, b => by
    intro hf hps hq0 hn hy
    by_cases hp : p < s.size
    · obtain ⟨f, rfl⟩ : ∃ m, f = m + 1 := ⟨f - 1, by omega⟩
      have hw1 := Text.width_pos s p hp
      have hw2 := Text.width_le s p hp
      have hB := decode_blank s p hp
      rw [Text.runes_next s f p hp]
      simp only [splitGo]
      generalize hd : (Utf8.decode s p).2 = n at *
      generalize hr : (Utf8.decode s p).1 = r at *
      by_cases h32 : (r : Int) = 32
      · rw [if_pos h32]
        have hB2 : ∀ j, p ≤ j → j < p + n → bt s j = 32 := fun j h1 h2 => (hB j h1 h2).2 (by omega)
        by_cases hq : 0 ≤ q
        · rw [if_pos hq]
          obtain ⟨h1, h2, h3, h4, h5⟩ := hy hq
          obtain ⟨q, rfl⟩ := Int.eq_ofNat_of_zero_le hq
          rw [splitGo_acc]
          have := chain_go s f (p + n) (-1) p true (by omega) hw2 (by omega) (fun _ => ⟨by omega, hB2, fun _ => by omega⟩) (fun h => by omega)
          exact Chain.cons (by omega) (fun h => by have := h5 h; omega) (by omega) hps (fun j a1 a2 => h3 j a1 (by omega)) (fun j a1 a2 => h4 j (by omega) a2) this
        · rw [if_neg hq]
          obtain ⟨h1, h2, h3⟩ := hn (by omega)
          exact chain_go s f (p + n) q a b (by omega) hw2 hq0 (fun _ => ⟨by omega, fun j a1 a2 => by
            rcases Nat.lt_or_ge j p with h | h
            · exact h2 j a1 h
            · exact hB2 j h a2, fun h => by have := h3 h; omega⟩) (fun h => by omega)
      · rw [if_neg h32]
        have hB2 : ∀ j, p ≤ j → j < p + n → bt s j ≠ 32 := fun j h1 h2 e => h32 (by have := (hB j h1 h2).1 e; omega)
        by_cases hq : q < 0
        · rw [if_pos hq]
          obtain ⟨h1, h2, h3⟩ := hn hq
          exact chain_go s f (p + n) p a b (by omega) hw2 (by omega) (fun h => by omega) (fun _ => ⟨by omega, by omega, fun j a1 a2 => h2 j a1 (by omega), fun j a1 a2 => hB2 j (by omega) a2, fun h => by have := h3 h; omega⟩)
        · rw [if_neg hq]
          obtain ⟨h1, h2, h3, h4, h5⟩ := hy (by omega)
          exact chain_go s f (p + n) q a b (by omega) hw2 (by omega) (fun h => by omega) (fun _ => ⟨h1, by omega, h3, fun j a1 a2 => by
            rcases Nat.lt_or_ge j p with h | h
            · exact h4 j a1 h
            · exact hB2 j h a2, h5⟩)
    · obtain rfl : p = s.size := by omega
      rw [Text.runes_end s f s.size hp]
      simp only [splitGo]
      by_cases hq : 0 ≤ q
      · rw [if_pos hq]
        obtain ⟨h1, h2, h3, h4, h5⟩ := hy hq
        obtain ⟨q, rfl⟩ := Int.eq_ofNat_of_zero_le hq
        exact Chain.cons (e := s.size) (by omega) (fun h => by have := h5 h; omega) (by omega) (Nat.le_refl _) (fun j a1 a2 => h3 j a1 (by omega)) (fun j a1 a2 => h4 j (by omega) a2) (.nil (Nat.le_refl _) (fun j _ _ => by omega))
      · rw [if_neg hq]
        obtain ⟨h1, h2, h3⟩ := hn (by omega)
        exact .nil h1 h2
  termination_by f => f

theorem split_chain (s : ByteArray) : Chain s 0 false (split s) :=
  chain_go s s.size 0 (-1) 0 false (by omega) (by omega) (by omega) (fun _ => ⟨by omega, fun j _ _ => by omega, by simp⟩) (fun h => by omega)

theorem extract_size (s : ByteArray) (q e : Nat) (h : q ≤ e) (h2 : e ≤ s.size) : (s.extract q e).size = e - q := by
  rw [ByteArray.size_extract]; omega
theorem bt_nat (s : ByteArray) (j : Nat) (h : j < s.size) : bt s j = ((s[j]'h).toNat : Int) := by simp [bt, h]
theorem bt_extract (s : ByteArray) (q e i : Nat) (h : q + i < e) (h2 : e ≤ s.size) : bt (s.extract q e) i = bt s ((q + i : Nat) : Int) := by
  rw [bt_nat s (q + i) (by omega), bt_nat _ i (by rw [extract_size s q e (by omega) h2]; omega)]
  simp [ByteArray.getElem_extract]
theorem wrap_nat (n : Nat) (h : n ≤ 4611686018427387904) : wrap64 (n : Int) = n := by unfold wrap64; omega

/-! ### the law WordWhole -/
theorem whole_l3 (s : ByteArray) (hs : s.size ≤ 3000) : ∀ (d i : Nat), s.size - i = d → (∀ j, i ≤ j → j < s.size → bt s j = 32) → Ev (fun k => tracerylaw01_WordWhole.l3 k s i) true
  | 0, i => fun hd h => Ev.step (f := fun _ => some true) (fun k => by simp only [tracerylaw01_WordWhole.l3]; rw [if_neg (by omega)]) (Ev.now _)
  | d + 1, i => fun hd h => Ev.step (f := fun k => tracerylaw01_WordWhole.l3 k s ((i + 1 : Nat) : Int)) (fun k => by
      simp only [tracerylaw01_WordWhole.l3]
      rw [if_pos (by omega), if_pos (by omega), if_pos (h i (Nat.le_refl _) (by omega)), show (i : Int) + 1 = ((i + 1 : Nat) : Int) from rfl, wrap_nat _ (by omega)]) (whole_l3 s hs d (i + 1) (by omega) (fun j h1 h2 => h j (by omega) h2))

theorem whole_l2 (s : ByteArray) (hs : s.size ≤ 3000) (ws : List S26) (x5 x7 : Int) (t : ByteArray) (ht : t.size ≤ 3000) (hx : Ev (fun k => tracerylaw01_WordWhole.l0 k s (wrap64 (x7 + (t.size : Int))) ws (wrap64 (x5 + 1))) true) : ∀ (d i : Nat), t.size - i = d → (∀ j, i ≤ j → j < t.size → bt t j ≠ 32) → Ev (fun k => tracerylaw01_WordWhole.l2 k s ws x5 i x7 t) true
  | 0, i => fun hd h => Ev.step (f := fun k => tracerylaw01_WordWhole.l0 k s (wrap64 (x7 + (t.size : Int))) ws (wrap64 (x5 + 1))) (fun k => by simp only [tracerylaw01_WordWhole.l2]; rw [if_neg (by omega)]) hx
  | d + 1, i => fun hd h => Ev.step (f := fun k => tracerylaw01_WordWhole.l2 k s ws x5 ((i + 1 : Nat) : Int) x7 t) (fun k => by
      simp only [tracerylaw01_WordWhole.l2]
      rw [if_pos (by omega), if_pos (by omega), if_neg (h i (Nat.le_refl _) (by omega)), show (i : Int) + 1 = ((i + 1 : Nat) : Int) from rfl, wrap_nat _ (by omega)]) (whole_l2 s hs ws x5 x7 t ht hx d (i + 1) (by omega) (fun j h1 h2 => h j (by omega) h2))

theorem whole_l1 (s : ByteArray) (hs : s.size ≤ 3000) (ws : List S26) (x5 : Int) (q : Nat) (hq : q ≤ s.size) (t : ByteArray) (hx : Ev (fun k => tracerylaw01_WordWhole.l2 k s ws x5 0 q t) true) : ∀ (d i : Nat), q - i = d → (∀ j, i ≤ j → j < q → bt s j = 32) → Ev (fun k => tracerylaw01_WordWhole.l1 k s ws x5 i q t) true
  | 0, i => fun hd h => Ev.step (f := fun k => tracerylaw01_WordWhole.l2 k s ws x5 0 q t) (fun k => by simp only [tracerylaw01_WordWhole.l1]; rw [if_neg (by omega)]) hx
  | d + 1, i => fun hd h => Ev.step (f := fun k => tracerylaw01_WordWhole.l1 k s ws x5 ((i + 1 : Nat) : Int) q t) (fun k => by
      simp only [tracerylaw01_WordWhole.l1]
      rw [if_pos (by omega), if_pos (by omega), if_pos (by omega), if_pos (h i (Nat.le_refl _) (by omega)), show (i : Int) + 1 = ((i + 1 : Nat) : Int) from rfl, wrap_nat _ (by omega)]) (whole_l1 s hs ws x5 q hq t hx d (i + 1) (by omega) (fun j h1 h2 => h j (by omega) h2))

/-- The words from number i on, the place a being reached. -/
theorem whole_l0 (s : ByteArray) (hs : s.size ≤ 3000) (ws : List S26) (hl : ws.length ≤ 3000) : ∀ (l : List S26) (i a : Nat), ws.drop i = l → i ≤ ws.length → Chain s a (decide (0 < i)) l → Ev (fun k => tracerylaw01_WordWhole.l0 k s a ws i) true
  | [], i, a => fun hd hi hc => by
    have hn : ws.length ≤ i := List.drop_eq_nil_iff.1 hd
    cases hc with
    | nil h1 h2 => exact Ev.step (f := fun k => tracerylaw01_WordWhole.l3 k s a) (fun k => by simp only [tracerylaw01_WordWhole.l0]; rw [if_neg (by omega)]) (whole_l3 s hs _ a rfl h2)
  | w :: l, i, a => fun hd hi hc => by
    have hlt : i < ws.length := by
      rcases Nat.lt_or_ge i ws.length with h | h
      · exact h
      · rw [List.drop_of_length_le h] at hd; cases hd
    have hrd : rd_T26 ws i = w := by
      unfold rd_T26
      rw [List.drop_eq_getElem_cons hlt] at hd
      injection hd with h1 h2
      simp [List.getD_eq_getElem?_getD, hlt, h1]
    have hd2 : ws.drop (i + 1) = l := by
      rw [List.drop_eq_getElem_cons hlt] at hd
      injection hd with h1 h2
    cases hc with
    | @cons _ q e _ _ h1 h2 h3 h4 h5 h6 h7 =>
      have hsz := extract_size s q e (by omega) h4
      have hqe : ((q : Int) + ((s.extract q e).size : Int)) = ((e : Nat) : Int) := by rw [hsz]; omega
      have ih := whole_l0 s hs ws hl l (i + 1) e hd2 (by omega) (by simpa using h7)
      have e2 := whole_l2 s hs ws i q (s.extract q e) (by omega) (by rw [hqe, wrap_nat _ (by omega), show (i : Int) + 1 = ((i + 1 : Nat) : Int) from rfl, wrap_nat _ (by omega)]; exact ih) _ 0 rfl (fun j a1 a2 => by rw [bt_extract s q e j (by omega) h4]; exact h6 _ (by omega) (by omega))
      have e1 := whole_l1 s hs ws i q (by omega) (s.extract q e) e2 _ a rfl h5
      refine Ev.step (f := fun k => tracerylaw01_WordWhole.j2 k s a ws i false q (s.extract q e)) (fun k => ?_) ?_
      · simp only [tracerylaw01_WordWhole.l0]
        rw [if_pos (by omega), if_pos (by omega), hrd]
        simp only []
        rw [hqe, wrap_nat _ (by omega), if_neg (by omega), if_neg (by omega), if_neg (by omega), if_pos (by omega), if_pos (by omega), if_pos (by omega), if_pos (by simp)]
        by_cases h0 : (i : Int) > 0
        · rw [if_pos h0]
          have : ((q : Int) == (a : Int)) = false := by
            have := h2 (by simpa using h0)
            simp; omega
          rw [this]
        · rw [if_neg h0]
      · exact Ev.step (f := fun k => tracerylaw01_WordWhole.l1 k s ws i a q (s.extract q e)) (fun k => by simp only [tracerylaw01_WordWhole.j2]; rw [if_neg (by simp)]) e1

theorem chain_len (s : ByteArray) {a : Nat} {b : Bool} {l : List S26} (h : Chain s a b l) : a + l.length ≤ s.size := by
  induction h with
  | nil h _ => simpa using h
  | cons h1 h2 h3 h4 h5 h6 h7 ih => simp; omega

theorem whole_pure : tracerylaw01_WordWhole.Pure := by
  intro s hs
  apply Ev.rounds
  unfold tracerylaw01_WordWhole.f
  simp only [awake_true, Option.bind_some, if_true]
  by_cases h : s.size ≤ 3000
  · have hc := split_chain s
    have hl := chain_len s hc
    refine Ev.step (f := fun k => tracerylaw01_WordWhole.l0 k s 0 (split s) 0) (fun k => ?_) (whole_l0 s h (split s) (by omega) (split s) 0 0 rfl (by omega) hc)
    simp only [tracerylaw01_WordWhole.j0]
    rw [if_neg (by simp; omega)]
    unfold word_Split.f
    rw [if_pos (by omega)]
    rfl
  · refine Ev.step (f := fun _ => some true) (fun k => ?_) (Ev.now _)
    simp only [tracerylaw01_WordWhole.j0, awake_true]
    rw [if_pos (by simp; omega)]
    rfl

/-! ### the law WordSplits -/
/-- The words as cuts. -/
def cutOf (w : S26) : S32 := ⟨w.f0, w.f0 + (w.f1.size : Int)⟩

/-- Bytes that the reference goes by: blanks, and bytes within a word. -/
theorem words_skip (s : ByteArray) (hs : s.size ≤ 3000) (acc : List S32) (r : List S32) (e : Nat) (he : e ≤ s.size) (hx : Ev (fun k => traceryref01_Words.l0 k s acc e) r) : ∀ (d i : Nat), e - i = d → i ≤ e → (∀ j, i ≤ j → j < e → bt s j = 32 ∨ 0 < j ∧ bt s ((j - 1 : Nat) : Int) ≠ 32) → Ev (fun k => traceryref01_Words.l0 k s acc i) r
  | 0, i => fun hd hi h => by
    obtain rfl : i = e := by omega
    exact hx
  | d + 1, i => fun hd hi h => by
    have ih := words_skip s hs acc r e he hx d (i + 1) (by omega) (by omega) (fun j h1 h2 => h j (by omega) h2)
    have ih2 : Ev (fun k => traceryref01_Words.j1 k s acc i true) r := Ev.step (f := fun k => traceryref01_Words.l0 k s acc ((i + 1 : Nat) : Int)) (fun k => by
      simp only [traceryref01_Words.j1]
      rw [if_pos trivial, show (i : Int) + 1 = ((i + 1 : Nat) : Int) from rfl, wrap_nat _ (by omega)]) ih
    refine Ev.step (f := fun k => traceryref01_Words.j1 k s acc i true) (fun k => ?_) ih2
    simp only [traceryref01_Words.l0]
    rw [if_pos (by omega), if_pos (by omega)]
    by_cases h32 : bt s i = 32
    · rw [if_pos h32]
    · rw [if_neg h32]
      rcases h i (Nat.le_refl _) (by omega) with h1 | ⟨h1, h2⟩
      · exact absurd h1 h32
      · have e1 : wrap64 ((i : Int) - 1) = ((i - 1 : Nat) : Int) := by unfold wrap64; omega
        rw [if_pos (by omega), e1, if_pos (by omega), if_pos (by omega)]
        have : (bt s ((i - 1 : Nat) : Int) != 32) = true := by simpa using h2
        rw [this]

/-- A word, from its begin q on, being gone through at i. -/
theorem words_l1 (s : ByteArray) (hs : s.size ≤ 3000) (acc : List S32) (hacc : acc.length ≤ 3000) (r : List S32) (q e : Nat) (hq : q ≤ e) (he : e ≤ s.size) (hend : e < s.size → bt s e = 32) (hx : Ev (fun k => traceryref01_Words.l0 k s (acc ++ [⟨q, e⟩]) ((q + 1 : Nat) : Int)) r) : ∀ (d i : Nat), e - i = d → i ≤ e → (∀ j, i ≤ j → j < e → bt s j ≠ 32) → Ev (fun k => traceryref01_Words.l1 k s acc q i) r
  | 0, i => fun hd hi h => by
    obtain rfl : i = e := by omega
    refine Ev.step (f := fun k => traceryref01_Words.l0 k s (acc ++ [⟨q, i⟩]) ((q + 1 : Nat) : Int)) (fun k => ?_) hx
    simp only [traceryref01_Words.l1]
    have e1 : wrap64 ((q : Int) + 1) = ((q + 1 : Nat) : Int) := by unfold wrap64; omega
    by_cases hlt : (i : Int) < s.size
    · rw [if_pos hlt, if_pos (by omega), if_pos (hend (by omega)), if_pos (by omega), e1]
    · rw [if_neg hlt, if_pos (by omega), e1]
  | d + 1, i => fun hd hi h => Ev.step (f := fun k => traceryref01_Words.l1 k s acc q ((i + 1 : Nat) : Int)) (fun k => by
      simp only [traceryref01_Words.l1]
      rw [if_pos (by omega), if_pos (by omega), if_neg (h i (Nat.le_refl _) (by omega)), show (i : Int) + 1 = ((i + 1 : Nat) : Int) from rfl, wrap_nat _ (by omega)]) (words_l1 s hs acc hacc r q e hq he hend hx d (i + 1) (by omega) (by omega) (fun j h1 h2 => h j (by omega) h2))

theorem chain_head (s : ByteArray) {a : Nat} {l : List S26} (h : Chain s a true l) : a ≤ s.size ∧ (a < s.size → bt s a = 32) := by
  cases h with
  | nil h1 h2 => exact ⟨h1, fun h => h2 a (Nat.le_refl _) h⟩
  | cons h1 h2 h3 h4 h5 h6 h7 => exact ⟨by omega, fun h => h5 a (Nat.le_refl _) (h2 rfl)⟩

/-- The reference from place a on (b: behind a word that begins at q0 < a). -/
theorem words_chain (s : ByteArray) (hs : s.size ≤ 3000) {a : Nat} {b : Bool} {l : List S26} (h : Chain s a b l) : ∀ (acc : List S32), acc.length ≤ a → (b = false → a = 0) → (b = true → 0 < a ∧ bt s ((a - 1 : Nat) : Int) ≠ 32) → Ev (fun k => traceryref01_Words.l0 k s acc a) (acc ++ l.map cutOf) := by
  induction h with
  | @nil a b h1 h2 =>
    intro acc ha hb hb2
    simp only [List.map_nil, List.append_nil]
    refine words_skip s hs acc acc s.size (Nat.le_refl _) ?_ _ a rfl h1 (fun j a1 a2 => .inl (h2 j a1 a2))
    exact Ev.step (f := fun _ => some acc) (fun k => by simp only [traceryref01_Words.l0]; rw [if_neg (by omega)]) (Ev.now _)
  | @cons a q e b l h1 h2 h3 h4 h5 h6 h7 ih =>
    intro acc ha hb hb2
    obtain ⟨hh1, hh2⟩ := chain_head s h7
    have ih1 := ih (acc ++ [⟨q, e⟩]) (by simp; omega) (by simp) (fun _ => ⟨by omega, h6 _ (by omega) (by omega)⟩)
    have ih2 : Ev (fun k => traceryref01_Words.l0 k s (acc ++ [⟨q, e⟩]) ((q + 1 : Nat) : Int)) (acc ++ [⟨q, e⟩] ++ l.map cutOf) := words_skip s hs _ _ e h4 ih1 _ (q + 1) rfl (by omega) (fun j a1 a2 => .inr ⟨by omega, h6 _ (by omega) (by omega)⟩)
    have e1 := words_l1 s hs acc (by omega) _ q e (by omega) h4 hh2 ih2 _ q rfl (by omega) h6
    have hcut : acc ++ [⟨(q : Int), (e : Int)⟩] ++ l.map cutOf = acc ++ (⟨(q : Int), s.extract q e⟩ :: l).map cutOf := by
      have : cutOf ⟨(q : Int), s.extract q e⟩ = ⟨(q : Int), (e : Int)⟩ := by
        unfold cutOf
        rw [extract_size s q e (by omega) h4]
        simp only [S32.mk.injEq, true_and]
        omega
      simp [this]
    rw [hcut] at e1
    refine words_skip s hs acc _ q (by omega) ?_ _ a rfl h1 (fun j a1 a2 => .inl (h5 j a1 a2))
    have hne : bt s q ≠ 32 := h6 q (Nat.le_refl _) h3
    have e2 : Ev (fun k => traceryref01_Words.j1 k s acc q false) (acc ++ (⟨(q : Int), s.extract q e⟩ :: l).map cutOf) := Ev.step (f := fun k => traceryref01_Words.l1 k s acc q q) (fun k => by simp only [traceryref01_Words.j1]; rw [if_neg (by simp)]) e1
    refine Ev.step (f := fun k => traceryref01_Words.j1 k s acc q false) (fun k => ?_) e2
    simp only [traceryref01_Words.l0]
    rw [if_pos (by omega), if_pos (by omega), if_neg hne]
    by_cases h0 : (q : Int) > 0
    · have e1 : wrap64 ((q : Int) - 1) = ((q - 1 : Nat) : Int) := by unfold wrap64; omega
      rw [if_pos h0, e1, if_pos (by omega), if_pos (by omega)]
      have hp : bt s ((q - 1 : Nat) : Int) = 32 := by
        refine h5 _ ?_ (by omega)
        cases b with
        | true => have := h2 rfl; omega
        | false => have := hb rfl; omega
      rw [hp]
      rfl
    · rw [if_neg h0]

theorem splits_l0 (s : ByteArray) (hs : s.size ≤ 3000) (ws : List S26) (hl : ws.length ≤ 3000) (hw : ∀ w ∈ ws, ∃ q e : Nat, q ≤ e ∧ e ≤ s.size ∧ w = ⟨q, s.extract q e⟩) : ∀ (d i : Nat), ws.length - i = d → Ev (fun k => tracerylaw01_WordSplits.l0 k s ws (ws.map cutOf) i) true
  | 0, i => fun hd => Ev.step (f := fun _ => some true) (fun k => by simp only [tracerylaw01_WordSplits.l0]; rw [if_neg (by omega)]) (Ev.now _)
  | d + 1, i => fun hd => Ev.step (f := fun k => tracerylaw01_WordSplits.l0 k s ws (ws.map cutOf) ((i + 1 : Nat) : Int)) (fun k => by
      have hlt : i < ws.length := by omega
      obtain ⟨q, e, h1, h2, h3⟩ := hw ws[i] (List.getElem_mem hlt)
      have r1 : rd_T26 ws i = ⟨q, s.extract q e⟩ := by simp [rd_T26, List.getD_eq_getElem?_getD, hlt, h3]
      have r2 : rd_T32 (ws.map cutOf) i = ⟨q, e⟩ := by
        have : cutOf ⟨(q : Int), s.extract q e⟩ = ⟨(q : Int), (e : Int)⟩ := by
          unfold cutOf
          rw [extract_size s q e h1 h2]
          simp only [S32.mk.injEq, true_and]
          omega
        simp [rd_T32, List.getD_eq_getElem?_getD, hlt, h3, this]
      simp only [tracerylaw01_WordSplits.l0]
      rw [if_pos (by omega), if_pos (by omega), if_pos (by simp; omega), r1, r2]
      simp only []
      rw [if_pos trivial, if_pos (by omega), if_pos (by omega), if_pos (by omega), if_pos (by simp), show (i : Int) + 1 = ((i + 1 : Nat) : Int) from rfl, wrap_nat _ (by omega)]) (splits_l0 s hs ws hl hw d (i + 1) (by omega))

theorem chain_words (s : ByteArray) {a : Nat} {b : Bool} {l : List S26} (h : Chain s a b l) : ∀ w ∈ l, ∃ q e : Nat, q ≤ e ∧ e ≤ s.size ∧ w = ⟨q, s.extract q e⟩ := by
  induction h with
  | nil _ _ => simp
  | @cons a q e b l h1 h2 h3 h4 h5 h6 h7 ih =>
    intro w hw
    rcases List.mem_cons.1 hw with rfl | hw
    · exact ⟨q, e, by omega, h4, rfl⟩
    · exact ih w hw

theorem splits_pure : tracerylaw01_WordSplits.Pure := by
  intro s hs
  apply Ev.rounds
  unfold tracerylaw01_WordSplits.f
  simp only [awake_true, Option.bind_some, if_true]
  by_cases h : s.size ≤ 3000
  · have hc := split_chain s
    have hl := chain_len s hc
    have hw := words_chain s h hc [] (by simp) (by simp) (by simp)
    have e2 : Ev (fun k => (traceryref01_Words.f k s).bind fun t128 => (if ((split s).length : Int) = (t128.length : Int) then (tracerylaw01_WordSplits.l0 k s (split s) t128 0) else (some false))) true := by
      refine Ev.bind (g := fun k => traceryref01_Words.f k s) (f := fun k t128 => (if ((split s).length : Int) = (t128.length : Int) then (tracerylaw01_WordSplits.l0 k s (split s) t128 0) else (some false))) hw ?_
      refine Ev.congr (f := fun k => tracerylaw01_WordSplits.l0 k s (split s) ((split s).map cutOf) 0) (fun k => ?_) (splits_l0 s h (split s) (by omega) (chain_words s hc) _ 0 rfl)
      simp
    refine Ev.step (fun k => ?_) e2
    simp only [tracerylaw01_WordSplits.j0]
    rw [if_neg (by simp; omega)]
    unfold word_Split.f
    rw [if_pos (by omega)]
    rfl
  · refine Ev.step (f := fun _ => some true) (fun k => ?_) (Ev.now _)
    simp only [tracerylaw01_WordSplits.j0, awake_true]
    rw [if_pos (by simp; omega)]
    rfl

end Go.Proofs.Ytdhnoclkepopgaa.PA
