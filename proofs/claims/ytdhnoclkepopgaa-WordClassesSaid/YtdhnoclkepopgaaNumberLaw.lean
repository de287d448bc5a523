/- What word.Number answers, byte by byte; a number's decimal text (plain Lean). -/
import Derived.Test.YtdhnoclkepopgaaSplitLaw
import Derived.Test.YtdhnoclkepopgaaPAx20
namespace Go.Proofs.Ytdhnoclkepopgaa.PA
open Go.RowKit Go.Proofs.YtdhnoclkepopgaaW.PrintWords Go.Proofs.YtdhnoclkepopgaaW.PrintLast

/-- The number of digits' bytes, behind what has been read. -/
def valGo : List UInt8 → Int → Int × Bool
  | [], n => (n, true)
  | c :: l, n => if 48 ≤ (c.toNat : Int) ∧ (c.toNat : Int) ≤ 57 then valGo l (10 * n + ((c.toNat : Int) - 48)) else (0, false)

theorem cls_of_digit {r : Int} (h1 : 48 ≤ r) (h2 : r ≤ 57) : Text.cls r = 2 := by
  unfold Text.cls Text.cls0 Text.cls1 Text.cls2 Text.cls3
  rw [if_neg (by omega), if_neg (by omega), if_neg (by omega), if_neg (by omega), if_pos ⟨h1, h2⟩]

theorem numGo_bytes (s : ByteArray) : ∀ (f p : Nat) (n : Int), s.size ≤ p + f → p ≤ s.size → Text.numGo (Text.runes s f p) n = valGo (s.data.toList.drop p) n
  | f, p, n => by
    intro hf hp
    by_cases h : p < s.size
    · obtain ⟨f, rfl⟩ : ∃ m, f = m + 1 := ⟨f - 1, by omega⟩
      have hl : p < s.data.toList.length := by rw [Text.data_len]; exact h
      rw [Text.runes_next s f p h, List.drop_eq_getElem_cons hl]
      simp only [Text.numGo, valGo]
      have hg := Text.get_data s p h
      rw [← hg]
      by_cases ha : (s[p]'h).toNat < 128
      · rw [decode_ascii s p h ha]
        by_cases hc : 48 ≤ ((s[p]'h).toNat : Int) ∧ ((s[p]'h).toNat : Int) ≤ 57
        · rw [if_pos hc, if_pos (cls_of_digit hc.1 hc.2)]
          exact numGo_bytes s f (p + 1) _ (by omega) (by omega)
        · rw [if_neg hc, if_neg (fun e => hc (Text.cls_digit e))]
      · have hd := (decode_high s p h (by omega)).1
        rw [if_neg (fun e => by have := Text.cls_digit e; omega), if_neg (by omega)]
    · obtain rfl : p = s.size := by omega
      rw [Text.runes_end s f s.size h, List.drop_of_length_le (by rw [Text.data_len]; exact Nat.le_refl _)]
      rfl
  termination_by f => f

/-- The digits of a number, the last one last. -/
def digs (n : Nat) : List Nat := if n < 10 then [n] else digs (n / 10) ++ [n % 10]
termination_by n
decreasing_by omega
def byteOf (d : Nat) : UInt8 := UInt8.ofNat (48 + d)
theorem byteOf_nat {d : Nat} (h : d < 10) : (byteOf d).toNat = 48 + d := by
  unfold byteOf
  rw [UInt8.toNat_ofNat']
  omega

theorem valGo_snoc (c : UInt8) (hc : 48 ≤ (c.toNat : Int) ∧ (c.toNat : Int) ≤ 57) : ∀ (l : List UInt8) (a m : Int), valGo l a = (m, true) → valGo (l ++ [c]) a = (10 * m + ((c.toNat : Int) - 48), true)
  | [], a, m => by
    intro h
    simp only [valGo] at h
    cases h
    simp only [List.nil_append, valGo]
    rw [if_pos hc]
  | d :: l, a, m => by
    intro h
    simp only [List.cons_append, valGo] at h ⊢
    by_cases hd : 48 ≤ (d.toNat : Int) ∧ (d.toNat : Int) ≤ 57
    · rw [if_pos hd] at h ⊢
      exact valGo_snoc c hc l _ m h
    · rw [if_neg hd] at h
      cases h

theorem valGo_digs (n : Nat) : valGo ((digs n).map byteOf) 0 = ((n : Int), true) := by
  unfold digs
  by_cases h : n < 10
  · rw [if_pos h]
    simp only [List.map_cons, List.map_nil, valGo, byteOf_nat h]
    rw [if_pos (by omega)]
    simp only [Prod.mk.injEq, and_true]
    omega
  · rw [if_neg h, List.map_append]
    have ih := valGo_digs (n / 10)
    have hb := byteOf_nat (show n % 10 < 10 by omega)
    have := valGo_snoc (byteOf (n % 10)) (by omega) _ 0 _ ih
    simp only [List.map_cons, List.map_nil, this, hb, Prod.mk.injEq, and_true]
    omega
termination_by n
decreasing_by omega

theorem digs_head (n : Nat) : ∃ d l, digs n = d :: l ∧ d < 10 ∧ (0 < n → 0 < d) ∧ (n = 0 → l = []) := by
  unfold digs
  by_cases h : n < 10
  · rw [if_pos h]; exact ⟨n, [], rfl, h, fun h => h, fun _ => rfl⟩
  · rw [if_neg h]
    obtain ⟨d, l, h1, h2, h3, _⟩ := digs_head (n / 10)
    exact ⟨d, l ++ [n % 10], by rw [h1]; rfl, h2, fun _ => h3 (by omega), fun h => by omega⟩
termination_by n
decreasing_by omega

theorem digs_len : ∀ (k n : Nat), (n : Int) < Text.ten k → 0 < k → (digs n).length ≤ k
  | 0, n => fun _ h => by omega
  | k + 1, n => fun h _ => by
    unfold digs
    by_cases h10 : n < 10
    · rw [if_pos h10]; simp
    · rw [if_neg h10]
      have hk : 0 < k := by
        rcases Nat.eq_zero_or_pos k with rfl | hk
        · simp [Text.ten] at h; omega
        · exact hk
      have := digs_len k (n / 10) (by simp only [Text.ten] at h; omega) hk
      simp only [List.length_append, List.length_singleton]
      omega

/-- From bytes back to digits. -/
theorem digs_val : ∀ (n : Nat) (l : List UInt8) (m : Int), l.length = n → valGo l 0 = (m, true) → (∃ c t, l = c :: t ∧ (c.toNat = 48 → t = [])) → 0 ≤ m ∧ (digs m.toNat).map byteOf = l ∧ (1 < l.length → 0 < m)
  | 0, l, m => by
    rintro h _ ⟨c, t, rfl, _⟩
    simp at h
  | n + 1, l, m => by
    intro hl hv ⟨c, t, hc, hct⟩
    obtain ⟨l', d, rfl⟩ : ∃ l' d, l = l' ++ [d] := by
      refine ⟨l.dropLast, l.getLast (by rw [hc]; simp), ?_⟩
      exact (List.dropLast_concat_getLast _).symm
    -- what stands ahead of the last byte has a value, too
    have key : ∀ (l : List UInt8) (a m : Int) (d : UInt8), valGo (l ++ [d]) a = (m, true) → ∃ m', valGo l a = (m', true) ∧ (48 ≤ (d.toNat : Int) ∧ (d.toNat : Int) ≤ 57) ∧ m = 10 * m' + ((d.toNat : Int) - 48) := by
      intro l
      induction l with
      | nil =>
        intro a m d h
        simp only [List.nil_append, valGo] at h
        by_cases hd : 48 ≤ (d.toNat : Int) ∧ (d.toNat : Int) ≤ 57
        · rw [if_pos hd] at h
          cases h
          exact ⟨a, rfl, hd, rfl⟩
        · rw [if_neg hd] at h
          cases h
      | cons x l ih =>
        intro a m d h
        simp only [List.cons_append, valGo] at h ⊢
        by_cases hd : 48 ≤ (x.toNat : Int) ∧ (x.toNat : Int) ≤ 57
        · rw [if_pos hd] at h ⊢
          exact ih _ m d h
        · rw [if_neg hd] at h
          cases h
    obtain ⟨m', hm', hd, rfl⟩ := key l' 0 m d hv
    have hdb : byteOf (d.toNat - 48) = d := by
      apply UInt8.toNat_inj.1
      rw [byteOf_nat (by omega)]
      omega
    cases l' with
    | nil =>
      simp only [valGo] at hm'
      cases hm'
      refine ⟨by omega, ?_, by simp⟩
      unfold digs
      rw [if_pos (by omega)]
      simp only [List.map_cons, List.map_nil, List.nil_append]
      rw [show (10 * (0 : Int) + ((d.toNat : Int) - 48)).toNat = d.toNat - 48 by omega, hdb]
    | cons x l' =>
      have hx : x = c := by simp at hc; exact hc.1
      subst hx
      have hx48 : ¬ x.toNat = 48 := fun e => by
        have := hct e
        simp at hc
        rw [← hc] at this
        simp at this
      obtain ⟨ih1, ih2, ih3⟩ := digs_val n (x :: l') m' (by simp at hl ⊢; omega) hm' ⟨x, l', rfl, fun e => absurd e hx48⟩
      have hpos : 0 < m' := by
        rcases Nat.lt_or_ge 1 (x :: l').length with h | h
        · exact ih3 h
        · have : l' = [] := by
            cases l' with
            | nil => rfl
            | cons => simp at h
          subst this
          simp only [valGo] at hm'
          split at hm'
          · cases hm'
            omega
          · cases hm'
      refine ⟨by omega, ?_, fun _ => by omega⟩
      unfold digs
      rw [if_neg (by omega), List.map_append, show (10 * m' + ((d.toNat : Int) - 48)).toNat / 10 = m'.toNat by omega, ih2, show (10 * m' + ((d.toNat : Int) - 48)).toNat % 10 = d.toNat - 48 by omega]
      simp [hdb]

def decText (n : Nat) : ByteArray := ⟨((digs n).map byteOf).toArray⟩
theorem decText_data (n : Nat) : (decText n).data.toList = (digs n).map byteOf := rfl
theorem decText_size (n : Nat) : (decText n).size = (digs n).length := by rw [← Text.data_len, decText_data, List.length_map]

/-- The reference's text of a number. -/
theorem dec_l0 : ∀ (d : Nat) (n : Nat) (x : ByteArray) (i : Nat), (digs n).length = d → i + d ≤ 12 → n < 1000000000000 → x.size ≤ i → Ev (fun k => tracerylaw01_dec.l0 k n x i) (⟨((digs n).map byteOf ++ x.data.toList).toArray⟩ : ByteArray)
  | 0, n, x, i => fun h _ _ _ => by
    obtain ⟨d, l, h1, _⟩ := digs_head n
    rw [h1] at h
    simp at h
  | d + 1, n, x, i => fun hd hi hn hx => by
    have e0 : wrap64 (48 + Int.tmod (n : Int) 10) % 256 = ((48 + n % 10 : Nat) : Int) := by
      have : Int.tmod (n : Int) 10 = ((n % 10 : Nat) : Int) := by rw [Int.tmod_eq_emod_of_nonneg (by omega)]; omega
      rw [this]
      unfold wrap64
      omega
    have e1 : wrap64 (Int.tdiv (n : Int) 10) = ((n / 10 : Nat) : Int) := by
      have : Int.tdiv (n : Int) 10 = ((n / 10 : Nat) : Int) := by rw [Int.tdiv_eq_ediv_of_nonneg (by omega)]; omega
      rw [this]
      unfold wrap64
      omega
    have es : strOfNums [((48 + n % 10 : Nat) : Int)] = ⟨#[byteOf (n % 10)]⟩ := rfl
    have ea : ∀ (c : UInt8) (y : ByteArray), (⟨#[c]⟩ : ByteArray) ++ y = ⟨(c :: y.data.toList).toArray⟩ := by
      intro c y
      apply ByteArray.ext
      simp
    have esz : ((⟨#[byteOf (n % 10)]⟩ : ByteArray).size + x.size) = x.size + 1 := by
      rw [Nat.add_comm]; rfl
    by_cases h10 : n < 10
    · refine Ev.step (f := fun _ => some _) (fun k => ?_) (Ev.now _)
      simp only [tracerylaw01_dec.l0]
      rw [if_pos (by omega), e0]
      simp only [Option.bind_some]
      rw [e1, es, esz, if_pos (by omega), if_pos (by omega), ea]
      unfold digs
      rw [if_pos h10]
      simp [show n % 10 = n by omega]
    · have hdn : digs n = digs (n / 10) ++ [n % 10] := by
        rw [digs, if_neg h10]
      have ih := dec_l0 d (n / 10) (⟨(byteOf (n % 10) :: x.data.toList).toArray⟩) (i + 1) (by rw [hdn] at hd; simp at hd; exact hd) (by omega) (by omega) (by have h1 := Text.data_len x; rw [← Text.data_len]; simp only [List.length_cons]; omega)
      refine Ev.step (f := fun k => tracerylaw01_dec.l0 k ((n / 10 : Nat) : Int) (⟨(byteOf (n % 10) :: x.data.toList).toArray⟩) ((i + 1 : Nat) : Int)) (fun k => ?_) ?_
      · simp only [tracerylaw01_dec.l0]
        rw [if_pos (by omega), e0]
        simp only [Option.bind_some]
        rw [e1, es, esz, if_pos (by omega), if_neg (by omega), ea, show (i : Int) + 1 = ((i + 1 : Nat) : Int) from rfl, wrap_nat _ (by omega)]
      · rw [hdn, List.map_append]
        simpa using ih

theorem dec_text (n : Nat) (h : n < 1000000000) : Ev (fun k => tracerylaw01_dec.f k n) (decText n) := by
  have hl := digs_len 9 n (by simp only [Text.ten]; omega) (by omega)
  have := dec_l0 _ n (⟨#[]⟩ : ByteArray) 0 rfl (by omega) (by omega) (by decide)
  simpa [tracerylaw01_dec.f, decText] using this

theorem number_bytes (s : ByteArray) : Text.number s = if s.size = 0 ∨ 9 < s.size ∨ ((Text.bt0 s = 48) ∧ s.size ≠ 1) then (0, false) else valGo s.data.toList 0 := by
  unfold Text.number Text.allRunes
  rw [numGo_bytes s s.size 0 0 (by omega) (by omega)]
  rfl

theorem bt0_cons (s : ByteArray) (c : UInt8) (t : List UInt8) (h : s.data.toList = c :: t) : Text.bt0 s = (c.toNat : Int) := by
  have hl := Text.data_len s
  rw [h] at hl
  unfold Text.bt0
  rw [dif_pos (by simp at hl; omega), Text.get_data]
  simp [h]

/-- A number's text is that number. -/
theorem number_decText (n : Nat) (h : n < 1000000000) : Text.number (decText n) = ((n : Int), true) := by
  rw [number_bytes]
  have hl := digs_len 9 n (by simp only [Text.ten]; omega) (by omega)
  obtain ⟨d, l, h1, h2, h3, h4⟩ := digs_head n
  have hs := decText_size n
  have hb := bt0_cons (decText n) (byteOf d) (l.map byteOf) (by rw [decText_data, h1]; rfl)
  rw [byteOf_nat h2] at hb
  have hlen : (digs n).length = l.length + 1 := by rw [h1]; rfl
  rw [if_neg]
  · rw [decText_data]; exact valGo_digs n
  · rintro (h5 | h5 | ⟨h5, h6⟩)
    · omega
    · omega
    · have hn : n = 0 := by
        rcases Nat.eq_zero_or_pos n with h | h
        · exact h
        · have := h3 h; omega
      rw [h4 hn] at hlen
      simp at hlen
      omega

/-- A text that is a number is that number's text. -/
theorem number_back (s : ByteArray) (m : Int) (h : Text.number s = (m, true)) : 0 ≤ m ∧ m < 1000000000 ∧ decText m.toNat = s ∧ (m = 0 → s.toList = [48]) := by
  rw [number_bytes] at h
  by_cases hb : s.size = 0 ∨ 9 < s.size ∨ ((Text.bt0 s = 48) ∧ s.size ≠ 1)
  · rw [if_pos hb] at h; cases h
  · rw [if_neg hb] at h
    have hl := Text.data_len s
    obtain ⟨c, t, hct⟩ : ∃ c t, s.data.toList = c :: t := by
      cases hd : s.data.toList with
      | nil => rw [hd] at hl; simp at hl; omega
      | cons c t => exact ⟨c, t, rfl⟩
    have hb0 := bt0_cons s c t hct
    obtain ⟨h1, h2, h3⟩ := digs_val s.data.toList.length s.data.toList m rfl h ⟨c, t, hct, fun e => by
      have : s.size = 1 := by omega
      rw [hct] at hl
      simp at hl
      exact List.eq_nil_of_length_eq_zero (by omega)⟩
    have bound : ∀ (l : List UInt8) (a m : Int), valGo l a = (m, true) → m < (a + 1) * Text.ten l.length := by
      intro l
      induction l with
      | nil => intro a m h; simp only [valGo] at h; cases h; simp [Text.ten]; omega
      | cons x l ih =>
        intro a m h
        simp only [valGo] at h
        by_cases hd : 48 ≤ (x.toNat : Int) ∧ (x.toNat : Int) ≤ 57
        · rw [if_pos hd] at h
          have := ih _ _ h
          have hp := Text.ten_pos l.length
          simp only [List.length_cons, Text.ten]
          have h9 : (10 * a + ((x.toNat : Int) - 48) + 1) * Text.ten l.length ≤ (10 * a + 10) * Text.ten l.length := Int.mul_le_mul_of_nonneg_right (by omega) (by omega)
          have e : (a + 1) * (10 * Text.ten l.length) = (10 * a + 10) * Text.ten l.length := by rw [← Int.mul_assoc]; congr 1; omega
          omega
        · rw [if_neg hd] at h
          cases h
    have hbd := bound _ _ _ h
    have h9 := Text.ten_nine (show s.data.toList.length ≤ 9 by omega)
    have hdt : decText m.toNat = s := by
      apply ByteArray.ext
      show ((digs m.toNat).map byteOf).toArray = s.data
      rw [h2]
    refine ⟨h1, by omega, hdt, fun e => ?_⟩
    rw [← hdt, Go.ByteArray.toList_eq, decText_data, e, show (Int.toNat 0) = 0 from rfl, digs, if_pos (by omega)]
    rfl

theorem number_no' (s : ByteArray) (m : Int) (h : Text.number s = (m, false)) : m = 0 := by
  have key : ∀ (l : List UInt8) (a m : Int), valGo l a = (m, false) → m = 0 := by
    intro l
    induction l with
    | nil => intro a m h; simp only [valGo] at h; cases h
    | cons x l ih =>
      intro a m h
      simp only [valGo] at h
      split at h
      · exact ih _ _ h
      · cases h; rfl
  rw [number_bytes] at h
  split at h
  · cases h; rfl
  · exact key _ _ _ h

/-- What is asked of the text, beside. -/
theorem numbers_tail (s : ByteArray) (hs : s.size ≤ 3000) : Ev (fun k => (word_Number.f s).bind fun bt175 => (if bt175.1 > 0 then (if (bt175.2 == true) = true then (if bt175.2 = true then ((tracerylaw01_dec.f k bt175.1).bind fun t177 => (some (t177.toList == s.toList))) else (some true)) else (some false)) else (if bt175.2 = true then (if (bt175.2 == (s.toList == ([48] : List UInt8))) = true then ((tracerylaw01_dec.f k bt175.1).bind fun t178 => (some (t178.toList == s.toList))) else (some false)) else (if (bt175.2 == false) = true then (some true) else (some false))))) true := by
  unfold word_Number.f
  rw [if_pos (by omega)]
  simp only [Option.bind_some]
  generalize hm : Text.number s = x
  obtain ⟨m, b⟩ := x
  cases b with
  | true =>
    obtain ⟨h1, h2, h3, h4⟩ := number_back s m hm
    obtain ⟨m, rfl⟩ := Int.eq_ofNat_of_zero_le h1
    have hd := dec_text m (by omega)
    rw [Int.toNat_natCast] at h3
    rw [h3] at hd
    have hE : Ev (fun k => (tracerylaw01_dec.f k m).bind fun t177 => (some (t177.toList == s.toList))) true := by
      have := Ev.bind (f := fun k (t177 : ByteArray) => some (t177.toList == s.toList)) hd (r := true) ⟨0, fun _ _ => by simp⟩
      exact this
    by_cases h0 : (m : Int) > 0
    · have h0' : 0 < m := by omega
      simpa [h0'] using hE
    · have := h4 (by omega)
      have h0' : ¬ 0 < m := by omega
      simpa [h0', this] using hE
  | false =>
    have := number_no' s m hm
    subst this
    simp
    exact Ev.now _

theorem numbers_pure : tracerylaw01_WordNumbers.Pure := by
  intro n s hn hs
  apply Ev.rounds
  unfold tracerylaw01_WordNumbers.f
  simp only [awake_true, Option.bind_some, if_true]
  by_cases h : s.size ≤ 3000
  · have ht := numbers_tail s h
    have e1 : Ev (fun k => tracerylaw01_WordNumbers.j1 k n s false) true := Ev.step (fun k => by simp only [tracerylaw01_WordNumbers.j1]; rw [if_neg (by simp)]) ht
    have e2 : 0 ≤ n → n ≤ 999999999 → Ev (fun k => tracerylaw01_WordNumbers.j1 k n s true) true := by
      intro h0 h9
      obtain ⟨n, rfl⟩ := Int.eq_ofNat_of_zero_le h0
      have hd := dec_text n (by omega)
      have hl := digs_len 9 n (by simp only [Text.ten]; omega) (by omega)
      have e3 : Ev (fun k => tracerylaw01_WordNumbers.j2 k s false) true := Ev.step (fun k => by simp only [tracerylaw01_WordNumbers.j2]; rw [if_neg (by simp)]) ht
      refine Ev.step (f := fun k => (tracerylaw01_dec.f k n).bind fun t172 => ((word_Number.f t172).bind fun bt173 => (if bt173.2 = true then (tracerylaw01_WordNumbers.j2 k s (bt173.1 != n)) else (tracerylaw01_WordNumbers.j2 k s true)))) (fun k => by simp only [tracerylaw01_WordNumbers.j1]; rw [if_pos trivial]) ?_
      refine Ev.bind (f := fun k t172 => ((word_Number.f t172).bind fun bt173 => (if bt173.2 = true then (tracerylaw01_WordNumbers.j2 k s (bt173.1 != n)) else (tracerylaw01_WordNumbers.j2 k s true)))) hd ?_
      unfold word_Number.f
      rw [if_pos (by rw [decText_size]; omega), number_decText n (by omega)]
      simpa using e3
    have e4 : Ev (fun k => tracerylaw01_WordNumbers.j0 k n s false) true := by
      by_cases h0 : n ≥ 0
      · refine Ev.step (f := fun k => tracerylaw01_WordNumbers.j1 k n s (decide (n ≤ 999999999))) (fun k => by simp only [tracerylaw01_WordNumbers.j0]; rw [if_neg (by simp), if_pos h0]) ?_
        by_cases h9 : n ≤ 999999999
        · rw [decide_eq_true h9]; exact e2 h0 h9
        · rw [decide_eq_false h9]; exact e1
      · exact Ev.step (f := fun k => tracerylaw01_WordNumbers.j1 k n s false) (fun k => by simp only [tracerylaw01_WordNumbers.j0]; rw [if_neg (by simp), if_neg h0]) e1
    rw [decide_eq_false (by omega)]
    exact e4
  · rw [decide_eq_true (by omega)]
    refine Ev.step (f := fun _ => some true) (fun k => ?_) (Ev.now _)
    simp only [tracerylaw01_WordNumbers.j0, awake_true]
    rw [if_pos trivial]
    rfl

end Go.Proofs.Ytdhnoclkepopgaa.PA
