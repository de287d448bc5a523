/- What word.Class, word.Name and word.Bad answer is what the reference does (plain Lean). -/
import Derived.Test.YtdhnoclkepopgaaNumberLaw
import Derived.Test.YtdhnoclkepopgaaPAx18
namespace Go.Proofs.Ytdhnoclkepopgaa.PA
open Go.RowKit Go.Proofs.YtdhnoclkepopgaaW.PrintWords Go.Proofs.YtdhnoclkepopgaaW.PrintLast

/-! ### the class of a rune -/
theorem ref_class_j2 (k : Nat) (r : Int) (b : Bool) : traceryref01_Class.j2 (k + 1) r b = some (if b = true then 3 else Text.cls5 r) := by
  simp only [traceryref01_Class.j2, Text.cls5]
  cases b <;> by_cases h : r = 32 <;> simp [h]
theorem ref_class_j1 (k : Nat) (r : Int) (b : Bool) : traceryref01_Class.j1 (k + 1 + 1) r b = some (if b = true then 2 else Text.cls4 r) := by
  simp only [traceryref01_Class.j1, Text.cls4, ref_class_j2]
  cases b <;> by_cases h : r = 95 <;> by_cases h1 : 8242 ≤ r <;> by_cases h2 : r ≤ 8244 <;> simp [h, h1, h2]
theorem ref_class_j0 (k : Nat) (r : Int) (b : Bool) : traceryref01_Class.j0 (k + 1 + 1 + 1) r b = some (if b = true then 1 else Text.cls3 r) := by
  simp only [traceryref01_Class.j0, Text.cls3, ref_class_j1]
  cases b <;> by_cases h1 : 48 ≤ r <;> by_cases h2 : r ≤ 57 <;> simp [h1, h2]
theorem ref_class (k : Nat) (r : Int) : traceryref01_Class.f (k + 1 + 1 + 1) r = some (Text.cls r) := by
  have hreg : r < 65 ∨ (65 ≤ r ∧ r ≤ 90) ∨ (91 ≤ r ∧ r ≤ 96) ∨ (97 ≤ r ∧ r ≤ 122) ∨ (123 ≤ r ∧ r ≤ 191) ∨ (192 ≤ r ∧ r ≤ 214) ∨ r = 215 ∨ (216 ≤ r ∧ r ≤ 246) ∨ r = 247 ∨ (248 ≤ r ∧ r ≤ 591) ∨ (592 ≤ r ∧ r ≤ 912) ∨ (913 ≤ r ∧ r ≤ 929) ∨ r = 930 ∨ (931 ≤ r ∧ r ≤ 969) ∨ (970 ≤ r ∧ r ≤ 1039) ∨ (1040 ≤ r ∧ r ≤ 1103) ∨ 1104 ≤ r := by omega
  simp only [traceryref01_Class.f, ref_class_j0, decide_eq_true_eq, if_true, Bool.false_eq_true, if_false]
  unfold Text.cls Text.cls0 Text.cls1 Text.cls2
  rcases hreg with h | h | h | h | h | h | h | h | h | h | h | h | h | h | h | h | h
  all_goals
    repeat (first | rw [if_pos (by omega)] | rw [if_neg (by omega)])

/-! ### the runes of a text -/
section
variable (s : ByteArray) (p : Nat)
theorem dec_ascii (h0 : (s.get! p).toNat < 128) : Utf8.decode s p = ((s.get! p).toNat, 1) := by
  simp only [Utf8.decode, Nat.add_zero]
  rw [if_pos h0]
theorem dec_other (h0 : 128 ≤ (s.get! p).toNat) (h : (s.get! p).toNat < 192 ∨ 248 ≤ (s.get! p).toNat) : Utf8.decode s p = (65533, 1) := by
  simp only [Utf8.decode, Nat.add_zero]
  rw [if_neg (by omega), if_neg (by simp; omega), if_neg (by simp; omega), if_neg (by simp; omega)]
  rfl
theorem dec_two (h0 : 192 ≤ (s.get! p).toNat ∧ (s.get! p).toNat < 224) (h1 : p + 1 < s.size) (h2 : 128 ≤ (s.get! (p + 1)).toNat ∧ (s.get! (p + 1)).toNat < 192) :
    Utf8.decode s p = if 128 ≤ (s.get! p).toNat % 32 * 64 + (s.get! (p + 1)).toNat % 64 then ((s.get! p).toNat % 32 * 64 + (s.get! (p + 1)).toNat % 64, 2) else (65533, 1) := by
  simp only [Utf8.decode, Nat.add_zero]
  rw [if_neg (by omega), if_pos (by simp; omega)]
  rfl
theorem dec_two_no (h0 : 192 ≤ (s.get! p).toNat ∧ (s.get! p).toNat < 224) (h1 : ¬ (p + 1 < s.size ∧ 128 ≤ (s.get! (p + 1)).toNat ∧ (s.get! (p + 1)).toNat < 192)) : Utf8.decode s p = (65533, 1) := by
  simp only [Utf8.decode, Nat.add_zero]
  rw [if_neg (by omega), if_neg (by simp; omega), if_neg (by simp; omega), if_neg (by simp; omega)]
  rfl
theorem dec_three (h0 : 224 ≤ (s.get! p).toNat ∧ (s.get! p).toNat < 240) (h1 : p + 2 < s.size) (h2 : 128 ≤ (s.get! (p + 1)).toNat ∧ (s.get! (p + 1)).toNat < 192) (h3 : 128 ≤ (s.get! (p + 2)).toNat ∧ (s.get! (p + 2)).toNat < 192) (c : Nat) (hc : c = (s.get! p).toNat % 16 * 4096 + (s.get! (p + 1)).toNat % 64 * 64 + (s.get! (p + 2)).toNat % 64) :
    Utf8.decode s p = if 2048 ≤ c ∧ ¬ (55296 ≤ c ∧ c ≤ 57343) then (c, 3) else (65533, 1) := by
  simp only [Utf8.decode, Nat.add_zero]
  rw [if_neg (by omega), if_neg (by simp; omega), if_pos (by simp; omega)]
  subst hc
  generalize hq : (s.get! p).toNat % 16 * 4096 + (s.get! (p + 1)).toNat % 64 * 64 + (s.get! (p + 2)).toNat % 64 = c
  by_cases h : 2048 ≤ c ∧ ¬ (55296 ≤ c ∧ c ≤ 57343)
  · rw [if_pos h, if_pos (by simp [Utf8.valid]; omega)]
  · rw [if_neg h, if_neg (by simp [Utf8.valid]; omega)]
    rfl
theorem dec_three_no (h0 : 224 ≤ (s.get! p).toNat ∧ (s.get! p).toNat < 240) (h1 : ¬ (p + 2 < s.size ∧ (128 ≤ (s.get! (p + 1)).toNat ∧ (s.get! (p + 1)).toNat < 192) ∧ (128 ≤ (s.get! (p + 2)).toNat ∧ (s.get! (p + 2)).toNat < 192))) : Utf8.decode s p = (65533, 1) := by
  simp only [Utf8.decode, Nat.add_zero]
  rw [if_neg (by omega), if_neg (by simp; omega), if_neg (by simp; omega), if_neg (by simp; omega)]
  rfl
theorem dec_four (h0 : 240 ≤ (s.get! p).toNat ∧ (s.get! p).toNat < 248) (h1 : p + 3 < s.size) (h2 : 128 ≤ (s.get! (p + 1)).toNat ∧ (s.get! (p + 1)).toNat < 192) (h3 : 128 ≤ (s.get! (p + 2)).toNat ∧ (s.get! (p + 2)).toNat < 192) (h4 : 128 ≤ (s.get! (p + 3)).toNat ∧ (s.get! (p + 3)).toNat < 192) (c : Nat) (hc : c = (s.get! p).toNat % 8 * 262144 + (s.get! (p + 1)).toNat % 64 * 4096 + (s.get! (p + 2)).toNat % 64 * 64 + (s.get! (p + 3)).toNat % 64) :
    Utf8.decode s p = if 65536 ≤ c ∧ c ≤ 1114111 then (c, 4) else (65533, 1) := by
  simp only [Utf8.decode, Nat.add_zero]
  rw [if_neg (by omega), if_neg (by simp; omega), if_neg (by simp; omega), if_pos (by simp; omega)]
  subst hc
  generalize hq : (s.get! p).toNat % 8 * 262144 + (s.get! (p + 1)).toNat % 64 * 4096 + (s.get! (p + 2)).toNat % 64 * 64 + (s.get! (p + 3)).toNat % 64 = c
  by_cases h : 65536 ≤ c ∧ c ≤ 1114111
  · rw [if_pos h, if_pos (by simp [Utf8.valid]; omega)]
  · rw [if_neg h, if_neg (by simp [Utf8.valid]; omega)]
    rfl
theorem dec_four_no (h0 : 240 ≤ (s.get! p).toNat ∧ (s.get! p).toNat < 248) (h1 : ¬ (p + 3 < s.size ∧ (128 ≤ (s.get! (p + 1)).toNat ∧ (s.get! (p + 1)).toNat < 192) ∧ (128 ≤ (s.get! (p + 2)).toNat ∧ (s.get! (p + 2)).toNat < 192) ∧ (128 ≤ (s.get! (p + 3)).toNat ∧ (s.get! (p + 3)).toNat < 192))) : Utf8.decode s p = (65533, 1) := by
  simp only [Utf8.decode, Nat.add_zero]
  rw [if_neg (by omega), if_neg (by simp; omega), if_neg (by simp; omega), if_neg (by simp; omega)]
  rfl
end

/-- A rune as the reference tells it. -/
def refRune (s : ByteArray) (p : Nat) : Int × Int := if (Utf8.decode s p).1 = 65533 ∧ (Utf8.decode s p).2 = 1 then (-1, 1) else ((Utf8.decode s p).1, (Utf8.decode s p).2)
theorem refRune_no {s : ByteArray} {p : Nat} (h : Utf8.decode s p = (65533, 1)) : refRune s p = (-1, 1) := by unfold refRune; rw [h]; rfl
theorem refRune_yes {s : ByteArray} {p c n : Nat} (h : Utf8.decode s p = (c, n)) (hn : n ≠ 1 ∨ c ≠ 65533) : refRune s p = ((c : Int), (n : Int)) := by
  unfold refRune; rw [h]
  rw [if_neg (by simp only []; omega)]

theorem byte_lt (s : ByteArray) (j : Nat) : (s.get! j).toNat < 256 := (s.get! j).toNat_lt

theorem wrap_id (n : Int) (h : -4611686018427387904 ≤ n ∧ n ≤ 4611686018427387904) : wrap64 n = n := by unfold wrap64; omega
section
variable (k : Nat) (s : ByteArray) (p i : Nat) (c n least b : Int)
theorem rune_step (hs : (s.size : Int) ≤ 3000) (hp : (p : Int) + i < s.size) (hi : (i : Int) ≤ n) (hc : 0 ≤ c ∧ c ≤ 2000000) (hb : bt s ((p + i : Nat) : Int) = b) (hb0 : 0 ≤ b ∧ b ≤ 255) :
    traceryref01_Rune.l0 (k + 1) s p c n least i = if b < 128 ∨ 191 < b then some (-1, 1) else traceryref01_Rune.l0 k s p (c * 64 + b - 128) n least ((i + 1 : Nat) : Int) := by
  have e1 : wrap64 ((p : Int) + (i : Int)) = ((p + i : Nat) : Int) := wrap_id _ (by omega)
  have e7 : wrap64 ((i : Int) + 1) = ((i + 1 : Nat) : Int) := wrap_id _ (by omega)
  simp only [traceryref01_Rune.l0]
  rw [if_pos hi, e1, if_pos (by omega), if_pos (by omega), hb, wrap_id b (by omega), wrap_id (c * 64) (by omega), wrap_id (c * 64 + b) (by omega), wrap_id (c * 64 + b - 128) (by omega), e7]
  by_cases h1 : b < 128
  · rw [if_pos h1, if_pos (.inl h1)]
  · rw [if_neg h1]
    by_cases h2 : b > 191
    · rw [if_pos h2, if_pos (.inr h2)]
    · rw [if_neg h2, if_neg (by omega)]
theorem rune_end (hi : n < (i : Int)) (hn : 0 ≤ n ∧ n ≤ 3) :
    traceryref01_Rune.l0 (k + 1) s p c n least i = if c < least ∨ 1114111 < c ∨ (55296 ≤ c ∧ c ≤ 57343) then some (-1, 1) else some (c, n + 1) := by
  simp only [traceryref01_Rune.l0]
  rw [if_neg (by omega), wrap_id (n + 1) (by omega)]
  by_cases h1 : c < least
  · rw [if_pos h1, if_pos (.inl h1)]
  · rw [if_neg h1]
    by_cases h2 : c > 1114111
    · rw [if_pos h2, if_pos (.inr (.inl h2))]
    · rw [if_neg h2]
      by_cases h3 : c ≥ 55296
      · rw [if_pos h3]
        by_cases h4 : c ≤ 57343
        · rw [if_pos h4, if_pos (by omega)]
        · rw [if_neg h4, if_neg (by omega)]
      · rw [if_neg h3, if_neg (by omega)]
theorem rune_j2 (hs : (s.size : Int) ≤ 3000) (hp : (p : Int) < s.size) : traceryref01_Rune.j2 (k + 1) s p c n least = if (s.size : Int) - p ≤ n then some (-1, 1) else traceryref01_Rune.l0 k s p c n least 1 := by
  simp only [traceryref01_Rune.j2]
  rw [wrap_id _ (by omega)]
theorem rune_j0 (hc : 0 ≤ c ∧ c ≤ 255) (t : Bool) : traceryref01_Rune.j0 (k + 1) s p c t = if t = true then traceryref01_Rune.j2 k s p (c - 192) 1 128 else if c ≥ 224 then traceryref01_Rune.j1 k s p c (decide (c < 240)) else traceryref01_Rune.j1 k s p c false := by
  simp only [traceryref01_Rune.j0]
  rw [wrap_id _ (by omega)]
theorem rune_j1 (hc : 0 ≤ c ∧ c ≤ 255) (t : Bool) : traceryref01_Rune.j1 (k + 1) s p c t = if t = true then traceryref01_Rune.j2 k s p (c - 224) 2 2048 else if c ≥ 240 then (if c < 245 then traceryref01_Rune.j2 k s p (c - 240) 3 65536 else some (-1, 1)) else some (-1, 1) := by
  simp only [traceryref01_Rune.j1]
  rw [wrap_id (c - 224) (by omega), wrap_id (c - 240) (by omega)]
theorem rune_f0 (hp : (p : Int) < s.size) (hb : bt s (p : Int) = b) (hb0 : 0 ≤ b ∧ b ≤ 255) : traceryref01_Rune.f k s p = if b < 128 then some (b, 1) else if b ≥ 194 then traceryref01_Rune.j0 k s p b (decide (b < 224)) else traceryref01_Rune.j0 k s p b false := by
  simp only [traceryref01_Rune.f]
  rw [if_pos (by omega), if_pos hp, hb, wrap_id b (by omega)]
end

/-- Two bytes, three, four: what the reference makes of them. -/
theorem rune_two (k : Nat) (s : ByteArray) (p : Nat) (b0 b1 : Int) (hs : (s.size : Int) ≤ 3000) (hp : (p : Int) < s.size) (h0 : 194 ≤ b0 ∧ b0 < 224) (e1 : (p : Int) + 1 < s.size → bt s ((p + 1 : Nat) : Int) = b1) (hb1 : 0 ≤ b1 ∧ b1 ≤ 255) :
    traceryref01_Rune.j2 (k + 1 + 1 + 1) s p (b0 - 192) 1 128 = if (p : Int) + 1 < s.size ∧ 128 ≤ b1 ∧ b1 < 192 then some ((b0 - 192) * 64 + b1 - 128, 2) else some (-1, 1) := by
  rw [rune_j2 _ _ _ _ _ _ hs hp]
  by_cases h : (p : Int) + 1 < s.size
  · rw [if_neg (by omega), show (1 : Int) = ((1 : Nat) : Int) from rfl, rune_step _ s p 1 _ _ _ b1 hs (by omega) (by omega) (by omega) (e1 h) hb1]
    by_cases h1 : b1 < 128 ∨ 191 < b1
    · rw [if_pos h1, if_neg (by omega)]; rfl
    · rw [if_neg h1, rune_end _ s p _ _ _ _ (by omega) (by omega), if_neg (by omega), if_pos (by omega)]
      rfl
  · rw [if_pos (by omega), if_neg (by omega)]
theorem rune_three (k : Nat) (s : ByteArray) (p : Nat) (b0 b1 b2 : Int) (hs : (s.size : Int) ≤ 3000) (hp : (p : Int) < s.size) (h0 : 224 ≤ b0 ∧ b0 < 240) (e1 : (p : Int) + 1 < s.size → bt s ((p + 1 : Nat) : Int) = b1) (hb1 : 0 ≤ b1 ∧ b1 ≤ 255) (e2 : (p : Int) + 2 < s.size → bt s ((p + 2 : Nat) : Int) = b2) (hb2 : 0 ≤ b2 ∧ b2 ≤ 255) (c : Int) (hc : c = ((b0 - 224) * 64 + b1 - 128) * 64 + b2 - 128) :
    traceryref01_Rune.j2 (k + 1 + 1 + 1 + 1) s p (b0 - 224) 2 2048 = if ((p : Int) + 2 < s.size ∧ (128 ≤ b1 ∧ b1 < 192) ∧ (128 ≤ b2 ∧ b2 < 192)) ∧ (2048 ≤ c ∧ ¬ (55296 ≤ c ∧ c ≤ 57343)) then some (c, 3) else some (-1, 1) := by
  rw [rune_j2 _ _ _ _ _ _ hs hp]
  by_cases h : (p : Int) + 2 < s.size
  · rw [if_neg (by omega), show (1 : Int) = ((1 : Nat) : Int) from rfl, rune_step _ s p 1 _ _ _ b1 hs (by omega) (by omega) (by omega) (e1 (by omega)) hb1]
    by_cases h1 : b1 < 128 ∨ 191 < b1
    · rw [if_pos h1, if_neg (by omega)]; rfl
    · rw [if_neg h1, rune_step _ s p (1 + 1) _ _ _ b2 hs (by omega) (by omega) (by omega) (e2 h) hb2]
      by_cases h2 : b2 < 128 ∨ 191 < b2
      · rw [if_pos h2, if_neg (by omega)]; rfl
      · rw [if_neg h2, rune_end _ s p _ _ _ _ (by omega) (by omega), ← hc]
        by_cases h3 : c < 2048 ∨ 1114111 < c ∨ (55296 ≤ c ∧ c ≤ 57343)
        · rw [if_pos h3, if_neg (by omega)]; rfl
        · rw [if_neg h3, if_pos (by omega)]; rfl
  · rw [if_pos (by omega), if_neg (by omega)]
theorem rune_four (k : Nat) (s : ByteArray) (p : Nat) (b0 b1 b2 b3 : Int) (hs : (s.size : Int) ≤ 3000) (hp : (p : Int) < s.size) (h0 : 240 ≤ b0 ∧ b0 < 245) (e1 : (p : Int) + 1 < s.size → bt s ((p + 1 : Nat) : Int) = b1) (hb1 : 0 ≤ b1 ∧ b1 ≤ 255) (e2 : (p : Int) + 2 < s.size → bt s ((p + 2 : Nat) : Int) = b2) (hb2 : 0 ≤ b2 ∧ b2 ≤ 255) (e3 : (p : Int) + 3 < s.size → bt s ((p + 3 : Nat) : Int) = b3) (hb3 : 0 ≤ b3 ∧ b3 ≤ 255) (c : Int) (hc : c = (((b0 - 240) * 64 + b1 - 128) * 64 + b2 - 128) * 64 + b3 - 128) :
    traceryref01_Rune.j2 (k + 1 + 1 + 1 + 1 + 1) s p (b0 - 240) 3 65536 = if ((p : Int) + 3 < s.size ∧ (128 ≤ b1 ∧ b1 < 192) ∧ (128 ≤ b2 ∧ b2 < 192) ∧ (128 ≤ b3 ∧ b3 < 192)) ∧ (65536 ≤ c ∧ c ≤ 1114111) then some (c, 4) else some (-1, 1) := by
  rw [rune_j2 _ _ _ _ _ _ hs hp]
  by_cases h : (p : Int) + 3 < s.size
  · rw [if_neg (by omega), show (1 : Int) = ((1 : Nat) : Int) from rfl, rune_step _ s p 1 _ _ _ b1 hs (by omega) (by omega) (by omega) (e1 (by omega)) hb1]
    by_cases h1 : b1 < 128 ∨ 191 < b1
    · rw [if_pos h1, if_neg (by omega)]; rfl
    · rw [if_neg h1, rune_step _ s p (1 + 1) _ _ _ b2 hs (by omega) (by omega) (by omega) (e2 (by omega)) hb2]
      by_cases h2 : b2 < 128 ∨ 191 < b2
      · rw [if_pos h2, if_neg (by omega)]; rfl
      · rw [if_neg h2, rune_step _ s p (1 + 1 + 1) _ _ _ b3 hs (by omega) (by omega) (by omega) (e3 h) hb3]
        by_cases h3 : b3 < 128 ∨ 191 < b3
        · rw [if_pos h3, if_neg (by omega)]; rfl
        · rw [if_neg h3, rune_end _ s p _ _ _ _ (by omega) (by omega), ← hc]
          by_cases h4 : c < 65536 ∨ 1114111 < c ∨ (55296 ≤ c ∧ c ≤ 57343)
          · rw [if_pos h4, if_neg (by omega)]; rfl
          · rw [if_neg h4, if_pos (by omega)]; rfl
  · rw [if_pos (by omega), if_neg (by omega)]

theorem rune_f (k : Nat) (s : ByteArray) (hs : s.size ≤ 3000) (p : Nat) (hp : p < s.size) : traceryref01_Rune.f (k + 1 + 1 + 1 + 1 + 1 + 1 + 1) s p = some (refRune s p) := by
  have d1 := dec_ascii s p
  have d2 := dec_other s p
  have d3 := dec_two s p
  have d4 := dec_two_no s p
  have d5 := dec_three s p
  have d6 := dec_three_no s p
  have d7 := dec_four s p
  have d8 := dec_four_no s p
  have e0 : bt s (p : Int) = ((s.get! p).toNat : Int) := bt_get s _ hp
  have e1 : (p : Int) + 1 < s.size → bt s ((p + 1 : Nat) : Int) = ((s.get! (p + 1)).toNat : Int) := fun h => bt_get s _ (by omega)
  have e2 : (p : Int) + 2 < s.size → bt s ((p + 2 : Nat) : Int) = ((s.get! (p + 2)).toNat : Int) := fun h => bt_get s _ (by omega)
  have e3 : (p : Int) + 3 < s.size → bt s ((p + 3 : Nat) : Int) = ((s.get! (p + 3)).toNat : Int) := fun h => bt_get s _ (by omega)
  have hb0 := byte_lt s p
  have hb1 := byte_lt s (p + 1)
  have hb2 := byte_lt s (p + 2)
  have hb3 := byte_lt s (p + 3)
  generalize (s.get! p).toNat = b0 at *
  generalize (s.get! (p + 1)).toNat = b1 at *
  generalize (s.get! (p + 2)).toNat = b2 at *
  generalize (s.get! (p + 3)).toNat = b3 at *
  rw [rune_f0 _ s p b0 (by omega) e0 (by omega)]
  by_cases h0 : b0 < 128
  · rw [if_pos (by omega), refRune_yes (d1 h0) (.inr (by omega))]
    rfl
  rw [if_neg (by omega)]
  by_cases h1 : b0 < 194
  · rw [if_neg (by omega), rune_j0 _ s p b0 (by omega), if_neg (by simp), if_neg (by omega), rune_j1 _ s p b0 (by omega), if_neg (by simp), if_neg (by omega), refRune_no]
    by_cases h : b0 < 192
    · exact d2 (by omega) (.inl h)
    · by_cases h2 : p + 1 < s.size ∧ 128 ≤ b1 ∧ b1 < 192
      · rw [d3 (by omega) h2.1 h2.2, if_neg (by omega)]
      · exact d4 (by omega) h2
  rw [if_pos (by omega), rune_j0 _ s p b0 (by omega)]
  by_cases h2 : b0 < 224
  · rw [if_pos (by simp; omega), rune_two _ s p b0 b1 (by omega) (by omega) (by omega) e1 (by omega)]
    by_cases h3 : p + 1 < s.size ∧ 128 ≤ b1 ∧ b1 < 192
    · rw [if_pos (by omega), refRune_yes (c := b0 % 32 * 64 + b1 % 64) (n := 2) (by rw [d3 (by omega) h3.1 h3.2, if_pos (by omega)]) (.inl (by omega))]
      simp only [Option.some.injEq, Prod.mk.injEq]
      omega
    · rw [if_neg (by omega), refRune_no (d4 (by omega) h3)]
  rw [if_neg (by simp; omega), if_pos (by omega), rune_j1 _ s p b0 (by omega)]
  by_cases h3 : b0 < 240
  · rw [if_pos (by simp; omega), rune_three _ s p b0 b1 b2 (by omega) (by omega) (by omega) e1 (by omega) e2 (by omega) _ rfl]
    by_cases h4 : p + 2 < s.size ∧ (128 ≤ b1 ∧ b1 < 192) ∧ (128 ≤ b2 ∧ b2 < 192)
    · have hd := d5 (by omega) h4.1 h4.2.1 h4.2.2 _ rfl
      generalize hc : b0 % 16 * 4096 + b1 % 64 * 64 + b2 % 64 = c at hd
      have hcd : (((b0 : Int) - 224) * 64 + b1 - 128) * 64 + b2 - 128 = (c : Int) := by omega
      rw [hcd]
      by_cases h7 : 2048 ≤ c ∧ ¬ (55296 ≤ c ∧ c ≤ 57343)
      · rw [if_pos (by omega), refRune_yes (c := c) (n := 3) (by rw [hd, if_pos h7]) (.inl (by omega))]
        rfl
      · rw [if_neg (by omega), refRune_no (by rw [hd, if_neg h7])]
    · rw [if_neg (by omega), refRune_no (d6 (by omega) h4)]
  rw [if_neg (by simp; omega), if_pos (by omega)]
  by_cases h4 : b0 < 245
  · rw [if_pos (by omega), rune_four _ s p b0 b1 b2 b3 (by omega) (by omega) (by omega) e1 (by omega) e2 (by omega) e3 (by omega) _ rfl]
    by_cases h5 : p + 3 < s.size ∧ (128 ≤ b1 ∧ b1 < 192) ∧ (128 ≤ b2 ∧ b2 < 192) ∧ (128 ≤ b3 ∧ b3 < 192)
    · have hd := d7 (by omega) h5.1 h5.2.1 h5.2.2.1 h5.2.2.2 _ rfl
      generalize hc : b0 % 8 * 262144 + b1 % 64 * 4096 + b2 % 64 * 64 + b3 % 64 = c at hd
      have hcd : ((((b0 : Int) - 240) * 64 + b1 - 128) * 64 + b2 - 128) * 64 + b3 - 128 = (c : Int) := by omega
      rw [hcd]
      by_cases h7 : 65536 ≤ c ∧ c ≤ 1114111
      · rw [if_pos (by omega), refRune_yes (c := c) (n := 4) (by rw [hd, if_pos h7]) (.inl (by omega))]
        rfl
      · rw [if_neg (by omega), refRune_no (by rw [hd, if_neg h7])]
    · rw [if_neg (by omega), refRune_no (d8 (by omega) h5)]
  · rw [if_neg (by omega), refRune_no]
    by_cases h : 248 ≤ b0
    · exact d2 (by omega) (.inr h)
    · by_cases h2 : p + 3 < s.size ∧ (128 ≤ b1 ∧ b1 < 192) ∧ (128 ≤ b2 ∧ b2 < 192) ∧ (128 ≤ b3 ∧ b3 < 192)
      · rw [d7 (by omega) h2.1 h2.2.1 h2.2.2.1 h2.2.2.2 _ rfl, if_neg (by omega)]
      · exact d8 (by omega) h2

theorem rune_ev (s : ByteArray) (hs : s.size ≤ 3000) (p : Nat) (hp : p < s.size) : Ev (fun k => traceryref01_Rune.f k s p) (refRune s p) := Ev.of (fun k => traceryref01_Rune.mono s p k) (rune_f 0 s hs p hp)
theorem class_ev (r : Int) : Ev (fun k => traceryref01_Class.f k r) (Text.cls r) := Ev.of (fun k => traceryref01_Class.mono r k) (ref_class 0 r)

/-! ### the first rune that may not stand -/
def badInt (x : Int × Bool) : Int := if x.2 = true then x.1 else -1

theorem refRune_cases (s : ByteArray) (p : Nat) : (refRune s p = (-1, 1) ∧ (Utf8.decode s p).1 = 65533 ∧ (Utf8.decode s p).2 = 1) ∨ (refRune s p = (((Utf8.decode s p).1 : Int), ((Utf8.decode s p).2 : Int)) ∧ ¬ ((Utf8.decode s p).1 = 65533 ∧ (Utf8.decode s p).2 = 1)) := by
  unfold refRune
  by_cases h : (Utf8.decode s p).1 = 65533 ∧ (Utf8.decode s p).2 = 1
  · rw [if_pos h]; exact .inl ⟨rfl, h⟩
  · rw [if_neg h]; exact .inr ⟨rfl, h⟩

theorem badGo_cons (p r : Nat) (l : List (Nat × Nat)) : Text.badGo ((p, r) :: l) = if (r : Int) = 65533 ∨ (Text.cls (r : Int) = 0 ∧ ¬ ((r : Int) = 10 ∨ (43 ≤ (r : Int) ∧ (r : Int) ≤ 47) ∨ (r : Int) = 58 ∨ (r : Int) = 124)) then ((p : Int), true) else Text.badGo l := by
  simp only [Text.badGo]
  by_cases h : (r : Int) = 65533 ∨ (Text.cls (r : Int) = 0 ∧ ¬ ((r : Int) = 10 ∨ (43 ≤ (r : Int) ∧ (r : Int) ≤ 47) ∨ (r : Int) = 58 ∨ (r : Int) = 124))
  · rw [if_pos h, if_pos (by omega)]
  · rw [if_neg h, if_neg (by omega)]
set_option maxHeartbeats 1000000 in
theorem bad_ev (s : ByteArray) (hs : s.size ≤ 3000) : ∀ (f p : Nat), s.size ≤ p + f → p ≤ s.size → Ev (fun k => traceryref01_Bad.l0 k s p) (badInt (Text.badGo (Text.runes s f p)))
  | f, p => by
    intro hf hp
    by_cases h : p < s.size
    · obtain ⟨f, rfl⟩ : ∃ m, f = m + 1 := ⟨f - 1, by omega⟩
      have hw1 := Text.width_pos s p h
      have hw2 := Text.width_le s p h
      have ih := bad_ev s hs f (p + (Utf8.decode s p).2) (by omega) hw2
      have hr := rune_ev s hs p h
      rw [Text.runes_next s f p h]
      rw [badGo_cons]
      have step : Ev (fun k => (traceryref01_Rune.f k s p).bind fun bt136 => (if bt136.1 < 0 then (some (p : Int)) else (if bt136.1 = 65533 then (some (p : Int)) else ((traceryref01_Class.f k bt136.1).bind fun t138 => (if t138 = 0 then (if bt136.1 = 10 then (traceryref01_Bad.l0 k s (wrap64 ((p : Int) + bt136.2))) else (if bt136.1 < 43 then (if bt136.1 = 58 then (traceryref01_Bad.l0 k s (wrap64 ((p : Int) + bt136.2))) else (if bt136.1 = 124 then (traceryref01_Bad.l0 k s (wrap64 ((p : Int) + bt136.2))) else (some (p : Int)))) else (if bt136.1 > 47 then (if bt136.1 = 58 then (traceryref01_Bad.l0 k s (wrap64 ((p : Int) + bt136.2))) else (if bt136.1 = 124 then (traceryref01_Bad.l0 k s (wrap64 ((p : Int) + bt136.2))) else (some (p : Int)))) else (traceryref01_Bad.l0 k s (wrap64 ((p : Int) + bt136.2)))))) else (traceryref01_Bad.l0 k s (wrap64 ((p : Int) + bt136.2)))))))) (badInt (if ((Utf8.decode s p).1 : Int) = 65533 ∨ (Text.cls ((Utf8.decode s p).1 : Int) = 0 ∧ ¬ (((Utf8.decode s p).1 : Int) = 10 ∨ (43 ≤ ((Utf8.decode s p).1 : Int) ∧ ((Utf8.decode s p).1 : Int) ≤ 47) ∨ ((Utf8.decode s p).1 : Int) = 58 ∨ ((Utf8.decode s p).1 : Int) = 124)) then ((p : Int), true) else Text.badGo (Text.runes s f (p + (Utf8.decode s p).2)))) := by
        refine Ev.bind (f := fun k bt136 => (if bt136.1 < 0 then (some (p : Int)) else (if bt136.1 = 65533 then (some (p : Int)) else ((traceryref01_Class.f k bt136.1).bind fun t138 => (if t138 = 0 then (if bt136.1 = 10 then (traceryref01_Bad.l0 k s (wrap64 ((p : Int) + bt136.2))) else (if bt136.1 < 43 then (if bt136.1 = 58 then (traceryref01_Bad.l0 k s (wrap64 ((p : Int) + bt136.2))) else (if bt136.1 = 124 then (traceryref01_Bad.l0 k s (wrap64 ((p : Int) + bt136.2))) else (some (p : Int)))) else (if bt136.1 > 47 then (if bt136.1 = 58 then (traceryref01_Bad.l0 k s (wrap64 ((p : Int) + bt136.2))) else (if bt136.1 = 124 then (traceryref01_Bad.l0 k s (wrap64 ((p : Int) + bt136.2))) else (some (p : Int)))) else (traceryref01_Bad.l0 k s (wrap64 ((p : Int) + bt136.2)))))) else (traceryref01_Bad.l0 k s (wrap64 ((p : Int) + bt136.2)))))))) hr ?_
        rcases refRune_cases s p with ⟨h1, h2, h3⟩ | ⟨h1, h2⟩
        · rw [h1, if_pos (by omega)]
          exact ⟨0, fun k _ => rfl⟩
        · rw [h1]
          have e1 : wrap64 ((p : Int) + ((Utf8.decode s p).2 : Int)) = ((p + (Utf8.decode s p).2 : Nat) : Int) := wrap_id _ (by omega)
          simp only [e1]
          have hr0 : ¬ ((Utf8.decode s p).1 : Int) < 0 := by omega
          generalize ((Utf8.decode s p).1 : Int) = r at hr0 ⊢
          by_cases h65 : r = 65533
          · subst h65
            rw [if_pos (.inl rfl)]
            exact ⟨0, fun k _ => rfl⟩
          · simp only [hr0, h65, if_false, false_or]
            refine Ev.bind (f := fun k t138 => (if t138 = 0 then (if r = 10 then (traceryref01_Bad.l0 k s ((p + (Utf8.decode s p).2 : Nat) : Int)) else (if r < 43 then (if r = 58 then (traceryref01_Bad.l0 k s ((p + (Utf8.decode s p).2 : Nat) : Int)) else (if r = 124 then (traceryref01_Bad.l0 k s ((p + (Utf8.decode s p).2 : Nat) : Int)) else (some (p : Int)))) else (if r > 47 then (if r = 58 then (traceryref01_Bad.l0 k s ((p + (Utf8.decode s p).2 : Nat) : Int)) else (if r = 124 then (traceryref01_Bad.l0 k s ((p + (Utf8.decode s p).2 : Nat) : Int)) else (some (p : Int)))) else (traceryref01_Bad.l0 k s ((p + (Utf8.decode s p).2 : Nat) : Int))))) else (traceryref01_Bad.l0 k s ((p + (Utf8.decode s p).2 : Nat) : Int)))) (class_ev r) ?_
            by_cases hc : Text.cls r = 0
            · by_cases hp : r = 10 ∨ (43 ≤ r ∧ r ≤ 47) ∨ r = 58 ∨ r = 124
              · rw [if_neg (by omega)]
                refine Ev.congr (fun k => ?_) ih
                rw [if_pos hc]
                repeat' split
                all_goals first | rfl | (exfalso; omega)
              · rw [if_pos ⟨hc, hp⟩]
                refine Ev.congr (f := fun _ => some (p : Int)) (fun k => ?_) (Ev.now _)
                rw [if_pos hc]
                repeat' split
                all_goals first | rfl | (exfalso; omega)
            · rw [if_neg (by omega)]
              refine Ev.congr (fun k => ?_) ih
              rw [if_neg hc]
      refine Ev.step (fun k => ?_) step
      simp only [traceryref01_Bad.l0]
      rw [if_pos (by omega)]
    · rw [Text.runes_end s f p h]
      refine Ev.step (f := fun _ => some (-1)) (fun k => ?_) (Ev.now _)
      simp only [traceryref01_Bad.l0]
      rw [if_neg (by omega)]
  termination_by f => f

/-! ### names -/
/-- The classes of a text's runes, 9 of what is none. -/
def classesAt (s : ByteArray) : Nat → Nat → List Int
  | 0, _ => []
  | f + 1, p => if p < s.size then (if (refRune s p).1 < 0 then 9 else Text.cls (refRune s p).1) :: classesAt s f (p + (Utf8.decode s p).2) else []

theorem classes_ev (s : ByteArray) (hs : s.size ≤ 3000) : ∀ (f p : Nat) (acc : List Int), s.size ≤ p + f → p ≤ s.size → acc.length ≤ p → Ev (fun k => traceryref01_Classes.l0 k s acc p) (acc ++ classesAt s f p)
  | f, p, acc => by
    intro hf hp ha
    by_cases h : p < s.size
    · obtain ⟨f, rfl⟩ : ∃ m, f = m + 1 := ⟨f - 1, by omega⟩
      have hw1 := Text.width_pos s p h
      have hw2 := Text.width_le s p h
      have hr := rune_ev s hs p h
      have ih := fun c => classes_ev s hs f (p + (Utf8.decode s p).2) (acc ++ [c]) (by omega) hw2 (by simp; omega)
      have e1 : wrap64 ((p : Int) + ((Utf8.decode s p).2 : Int)) = ((p + (Utf8.decode s p).2 : Nat) : Int) := wrap_id _ (by omega)
      have e2 : (refRune s p).2 = ((Utf8.decode s p).2 : Int) := by
        rcases refRune_cases s p with ⟨h1, h2, h3⟩ | ⟨h1, h2⟩
        · rw [h1, h3]; rfl
        · rw [h1]
      simp only [classesAt]
      rw [if_pos h]
      refine Ev.step (f := fun k => (traceryref01_Rune.f k s p).bind fun bt139 => (if bt139.1 < 0 then (if acc.length < 17592186044416 then (traceryref01_Classes.l0 k s (acc ++ [9]) (wrap64 ((p : Int) + bt139.2))) else (none)) else ((traceryref01_Class.f k bt139.1).bind fun t144 => (if acc.length < 17592186044416 then (traceryref01_Classes.l0 k s (acc ++ [t144]) (wrap64 ((p : Int) + bt139.2))) else (none))))) (fun k => by
        simp only [traceryref01_Classes.l0]
        rw [if_pos (by omega)]) ?_
      refine Ev.bind (f := fun k bt139 => (if bt139.1 < 0 then (if acc.length < 17592186044416 then (traceryref01_Classes.l0 k s (acc ++ [9]) (wrap64 ((p : Int) + bt139.2))) else (none)) else ((traceryref01_Class.f k bt139.1).bind fun t144 => (if acc.length < 17592186044416 then (traceryref01_Classes.l0 k s (acc ++ [t144]) (wrap64 ((p : Int) + bt139.2))) else (none))))) hr ?_
      rw [e2, e1]
      by_cases hneg : (refRune s p).1 < 0
      · rw [if_pos hneg]
        refine Ev.congr (fun k => ?_) (by have := ih 9; rwa [List.append_assoc] at this)
        rw [if_pos hneg, if_pos (by omega)]
      · rw [if_neg hneg]
        refine Ev.congr (f := fun k => (traceryref01_Class.f k (refRune s p).1).bind fun t144 => (if acc.length < 17592186044416 then (traceryref01_Classes.l0 k s (acc ++ [t144]) ((p + (Utf8.decode s p).2 : Nat) : Int)) else (none))) (fun k => by rw [if_neg hneg]) ?_
        refine Ev.bind (f := fun k t144 => (if acc.length < 17592186044416 then (traceryref01_Classes.l0 k s (acc ++ [t144]) ((p + (Utf8.decode s p).2 : Nat) : Int)) else (none))) (class_ev _) ?_
        refine Ev.congr (fun k => ?_) (by have := ih (Text.cls (refRune s p).1); rwa [List.append_assoc] at this)
        rw [if_pos (by omega)]
    · have : classesAt s f p = [] := by
        cases f with
        | zero => rfl
        | succ f => simp [classesAt, h]
      rw [this, List.append_nil]
      refine Ev.step (f := fun _ => some acc) (fun k => ?_) (Ev.now _)
      simp only [traceryref01_Classes.l0]
      rw [if_neg (by omega)]
  termination_by f => f

/-- The same as word.Name, over classes. -/
def nameL : List Int → Int → Int → Bool
  | [], n, g => decide (1 ≤ n ∧ n ≤ 16 ∧ g ≤ 3)
  | c :: l, n, g =>
    if n = 0 ∧ c ≠ 1 then false
    else if c = 3 then nameL l (n + 1) (g + 1)
    else if 0 < g ∨ (c ≠ 1 ∧ c ≠ 2) then false
    else nameL l (n + 1) g

theorem nameGo_classes (s : ByteArray) : ∀ (f p : Nat) (n g : Int), s.size ≤ p + f → p ≤ s.size → Text.nameGo (Text.runes s f p) n g = nameL (classesAt s f p) n g
  | f, p, n, g => by
    intro hf hp
    by_cases h : p < s.size
    · obtain ⟨f, rfl⟩ : ∃ m, f = m + 1 := ⟨f - 1, by omega⟩
      have hw1 := Text.width_pos s p h
      have hw2 := Text.width_le s p h
      have ih := fun n g => nameGo_classes s f (p + (Utf8.decode s p).2) n g (by omega) hw2
      rw [Text.runes_next s f p h]
      simp only [Text.nameGo, classesAt]
      rw [if_pos h]
      simp only [nameL, ih]
      rcases refRune_cases s p with ⟨h1, h2, h3⟩ | ⟨h1, h2⟩
      · have hc : (if (refRune s p).1 < 0 then 9 else Text.cls (refRune s p).1) = 9 := by rw [h1]; rfl
        have h0 : Text.cls ((65533 : Nat) : Int) = 0 := by decide
        rw [hc, h2, h0]
        simp
      · have hc : (if (refRune s p).1 < 0 then 9 else Text.cls (refRune s p).1) = Text.cls ((Utf8.decode s p).1 : Int) := by
          rw [h1]
          exact if_neg (show ¬ ((Utf8.decode s p).1 : Int) < 0 by omega)
        rw [hc]
    · rw [Text.runes_end s f p h]
      have : classesAt s f p = [] := by
        cases f with
        | zero => rfl
        | succ f => simp [classesAt, h]
      rw [this]
      rfl
  termination_by f => f

/-- A list without the threes at its end. -/
def core : List Int → List Int
  | [] => []
  | x :: l => if x = 3 ∧ core l = [] then [] else x :: core l

theorem core_len : ∀ l, (core l).length ≤ l.length
  | [] => by simp [core]
  | x :: l => by
    have := core_len l
    unfold core
    split
    · simp
    · simp only [List.length_cons]; omega
theorem core_take : ∀ l, l.take (core l).length = core l
  | [] => by simp [core]
  | x :: l => by
    have := core_take l
    unfold core
    split
    · simp
    · simp only [List.length_cons, List.take_succ_cons, this]
theorem core_tail : ∀ (l : List Int) (i : Nat), (core l).length ≤ i → i < l.length → l.getD i 0 = 3
  | [], i => by simp
  | x :: l, i => by
    intro h hi
    have ih := core_tail l
    unfold core at h
    by_cases hx : x = 3 ∧ core l = []
    · rw [if_pos hx] at h
      cases i with
      | zero => simpa using hx.1
      | succ i => simpa using ih i (by rw [hx.2]; simp) (by simpa using hi)
    · rw [if_neg hx] at h
      cases i with
      | zero => simp at h
      | succ i => simpa using ih i (by simpa using h) (by simpa using hi)
theorem core_last : ∀ (l : List Int), 0 < (core l).length → l.getD ((core l).length - 1) 0 ≠ 3
  | [] => by simp [core]
  | x :: l => by
    intro h
    have ih := core_last l
    unfold core at h ⊢
    by_cases hx : x = 3 ∧ core l = []
    · rw [if_pos hx] at h; simp at h
    · rw [if_neg hx]
      simp only [List.length_cons, Nat.add_sub_cancel]
      cases hc : (core l).length with
      | zero =>
        have : core l = [] := List.eq_nil_of_length_eq_zero hc
        simp only [List.getD_cons_zero]
        exact fun e => hx ⟨e, this⟩
      | succ m =>
        have := ih (by omega)
        rw [hc] at this
        simpa using this

/-- What a name is, over classes. -/
def isName (l : List Int) : Bool := decide (1 ≤ l.length ∧ l.length ≤ 16 ∧ l.getD 0 0 = 1 ∧ l.length - (core l).length ≤ 3 ∧ ∀ x ∈ core l, x = 1 ∨ x = 2)

/-- Signs have begun: nothing else may come. -/
theorem nameL_signs : ∀ (l : List Int) (n g : Int), 0 < n → 0 < g → nameL l n g = decide (n + l.length ≤ 16 ∧ g + l.length ≤ 3 ∧ core l = [])
  | [], n, g => by
    intro hn hg
    simp only [nameL, core, List.length_nil]
    congr 1
    simp only [eq_iff_iff, and_true]
    constructor
    · rintro ⟨_, h⟩; omega
    · rintro h; omega
  | x :: l, n, g => by
    intro hn hg
    simp only [nameL]
    rw [if_neg (by omega)]
    by_cases h3 : x = 3
    · rw [if_pos h3, nameL_signs l (n + 1) (g + 1) (by omega) (by omega)]
      simp only [core, h3, true_and]
      by_cases hc : core l = []
      · simp only [hc, if_true, and_true, List.length_cons]
        congr 1
        simp only [eq_iff_iff]
        constructor
        · rintro h; omega
        · rintro h; omega
      · simp [hc]
    · rw [if_neg h3, if_pos (.inl hg)]
      simp [core, h3]

theorem nameL_letters : ∀ (l : List Int) (n : Int), 0 < n → nameL l n 0 = decide (n + l.length ≤ 16 ∧ l.length - (core l).length ≤ 3 ∧ ∀ x ∈ core l, x = 1 ∨ x = 2)
  | [], n => by
    intro hn
    simp only [nameL, core, List.length_nil]
    congr 1
    simp only [eq_iff_iff]
    constructor
    · rintro ⟨_, h⟩; exact ⟨by omega, by omega, by simp⟩
    · rintro h; omega
  | x :: l, n => by
    intro hn
    have hl := core_len l
    simp only [nameL]
    rw [if_neg (by omega)]
    by_cases h3 : x = 3
    · rw [if_pos h3, nameL_signs l (n + 1) (0 + 1) (by omega) (by omega)]
      by_cases hc : core l = []
      · simp only [core, h3, hc, if_true, and_true, List.length_cons, List.length_nil]
        congr 1
        simp only [eq_iff_iff]
        constructor
        · rintro h; exact ⟨by omega, by omega, by simp⟩
        · rintro h; omega
      · simp [core, h3, hc]
    · rw [if_neg h3]
      by_cases h12 : x = 1 ∨ x = 2
      · rw [if_neg (by omega), nameL_letters l (n + 1) (by omega)]
        simp only [core, h3, false_and, if_false, List.length_cons]
        congr 1
        simp only [eq_iff_iff, List.mem_cons, forall_eq_or_imp, h12, true_and]
        constructor
        · rintro ⟨a, b, c⟩; exact ⟨by omega, by omega, c⟩
        · rintro ⟨a, b, c⟩; exact ⟨by omega, by omega, c⟩
      · rw [if_pos (.inr (by omega))]
        have hn : ¬ (n + ((x :: l).length : Int) ≤ 16 ∧ (x :: l).length - (core (x :: l)).length ≤ 3 ∧ ∀ y ∈ core (x :: l), y = 1 ∨ y = 2) := by
          rintro ⟨_, _, h⟩
          refine h12 (h x ?_)
          unfold core
          rw [if_neg (by omega)]
          simp
        rw [decide_eq_false hn]

theorem nameL_is (l : List Int) : nameL l 0 0 = isName l := by
  cases l with
  | nil => simp [nameL, isName]
  | cons x l =>
    have hl := core_len l
    simp only [nameL, isName, List.length_cons, List.getD_cons_zero]
    by_cases hx : x = 1
    · subst hx
      rw [if_neg (by omega), if_neg (by omega), if_neg (by omega), nameL_letters l (0 + 1) (by omega)]
      have hc : core (1 :: l) = 1 :: core l := by unfold core; rw [if_neg (by omega)]; cases l <;> rfl
      rw [hc]
      congr 1
      simp only [eq_iff_iff, List.mem_cons, forall_eq_or_imp, true_and, List.length_cons, true_or]
      constructor
      · rintro ⟨a, b, c⟩; exact ⟨by omega, by omega, by omega, c⟩
      · rintro ⟨_, a, b, c⟩; exact ⟨by omega, by omega, c⟩
    · rw [if_pos (by simp [hx])]
      simp [hx]

theorem name_l1 (l : List Int) (hl : l.length ≤ 100) (n : Nat) (hn : n ≤ l.length) : ∀ (d i : Nat), n - i = d → (∀ j, j < i → j < n → l.getD j 0 = 1 ∨ l.getD j 0 = 2) → Ev (fun k => traceryref01_Name.l1 k l n i) (decide (∀ j, j < n → l.getD j 0 = 1 ∨ l.getD j 0 = 2))
  | 0, i => fun hd h => by
    rw [decide_eq_true (fun j hj => h j (by omega) hj)]
    refine Ev.step (f := fun _ => some true) (fun k => ?_) (Ev.now _)
    simp only [traceryref01_Name.l1]
    rw [if_neg (by omega)]
  | d + 1, i => fun hd h => by
    by_cases hi : l.getD i 0 = 1 ∨ l.getD i 0 = 2
    · have ih := name_l1 l hl n hn d (i + 1) (by omega) (fun j h1 h2 => by
        rcases Nat.lt_or_ge j i with h3 | h3
        · exact h j h3 h2
        · obtain rfl : j = i := by omega
          exact hi)
      refine Ev.step (f := fun k => traceryref01_Name.l1 k l n ((i + 1 : Nat) : Int)) (fun k => ?_) ih
      simp only [traceryref01_Name.l1]
      rw [if_pos (by omega), if_pos (by omega), if_pos (by omega), show (i : Int) + 1 = ((i + 1 : Nat) : Int) from rfl, wrap_nat _ (by omega)]
      have hi' : rd l i = 1 ∨ rd l i = 2 := hi
      rcases hi' with hi' | hi'
      · rw [if_pos hi']
      · rw [if_neg (by omega), if_pos hi']
    · rw [decide_eq_false (fun hh => hi (hh i (by omega)))]
      refine Ev.step (f := fun _ => some false) (fun k => ?_) (Ev.now _)
      simp only [traceryref01_Name.l1]
      have hi' : ¬ (rd l i = 1 ∨ rd l i = 2) := hi
      rw [if_pos (by omega), if_pos (by omega), if_pos (by omega), if_neg (by omega), if_neg (by omega)]

theorem name_l0 (l : List Int) (hl : l.length ≤ 100) (r : Bool) (hx : Ev (fun k => traceryref01_Name.j2 k l ((core l).length : Int)) r) : ∀ (d n : Nat), n - (core l).length = d → (core l).length ≤ n → n ≤ l.length → Ev (fun k => traceryref01_Name.l0 k l n) r
  | 0, n => fun hd h1 h2 => by
    obtain rfl : n = (core l).length := by omega
    refine Ev.step (f := fun k => traceryref01_Name.j2 k l ((core l).length : Int)) (fun k => ?_) hx
    simp only [traceryref01_Name.l0]
    by_cases h0 : ((core l).length : Int) > 0
    · have e1 : wrap64 (((core l).length : Int) - 1) = (((core l).length - 1 : Nat) : Int) := by rw [wrap_id _ (by omega)]; omega
      have hq : rd l (((core l).length - 1 : Nat) : Int) ≠ 3 := core_last l (by omega)
      rw [if_pos h0, e1, if_pos (by omega), if_pos (by omega)]
      rw [if_neg hq]
    · rw [if_neg h0]
  | d + 1, n => fun hd h1 h2 => by
    have ih := name_l0 l hl r hx d (n - 1) (by omega) (by omega) (by omega)
    refine Ev.step (f := fun k => traceryref01_Name.l0 k l ((n - 1 : Nat) : Int)) (fun k => ?_) ih
    have e1 : wrap64 ((n : Int) - 1) = ((n - 1 : Nat) : Int) := by rw [wrap_id _ (by omega)]; omega
    have hq : rd l ((n - 1 : Nat) : Int) = 3 := core_tail l (n - 1) (by omega) (by omega)
    simp only [traceryref01_Name.l0]
    rw [if_pos (by omega), e1, if_pos (by omega), if_pos (by omega)]
    rw [if_pos hq]

theorem all_core (l : List Int) : (∀ j, j < (core l).length → l.getD j 0 = 1 ∨ l.getD j 0 = 2) ↔ ∀ x ∈ core l, x = 1 ∨ x = 2 := by
  have ht := core_take l
  have hl := core_len l
  have hget : ∀ j (h : j < (core l).length), l.getD j 0 = (core l)[j] := by
    intro j h
    have : (l.take (core l).length)[j]'(by rw [ht]; exact h) = (core l)[j] := by simp only [ht]
    rw [← this]
    rw [List.getElem_take, List.getD_eq_getElem?_getD, List.getElem?_eq_getElem (by omega)]
    rfl
  constructor
  · intro h x hx
    obtain ⟨j, hj, rfl⟩ := List.getElem_of_mem hx
    rw [← hget j hj]
    exact h j hj
  · intro h j hj
    rw [hget j hj]
    exact h _ (List.getElem_mem hj)

theorem name_list (l : List Int) : Ev (fun k => if (l.length : Int) < 1 then (traceryref01_Name.j0 k l true) else (if (l.length : Int) > 16 then (traceryref01_Name.j0 k l true) else (if 0 < (l.length : Int) then (traceryref01_Name.j0 k l ((rd l 0) != 1)) else (none)))) (isName l) := by
  have hno : Ev (fun k => traceryref01_Name.j0 k l true) false := Ev.step (f := fun _ => some false) (fun k => by simp only [traceryref01_Name.j0]; rw [if_pos trivial]) (Ev.now _)
  have hcl := core_len l
  by_cases h1 : (l.length : Int) < 1
  · have : isName l = false := decide_eq_false (by omega)
    rw [this]
    exact Ev.congr (fun k => by rw [if_pos h1]) hno
  · by_cases h2 : (l.length : Int) > 16
    · have : isName l = false := decide_eq_false (by omega)
      rw [this]
      exact Ev.congr (fun k => by rw [if_neg h1, if_pos h2]) hno
    · refine Ev.congr (f := fun k => traceryref01_Name.j0 k l ((rd l 0) != 1)) (fun k => by rw [if_neg h1, if_neg h2, if_pos (by omega)]) ?_
      by_cases h3 : l.getD 0 0 = 1
      · have e3 : (rd l 0 != 1) = false := by simp only [rd]; rw [show (0 : Int).toNat = 0 from rfl, h3]; rfl
        rw [e3]
        refine Ev.step (f := fun k => traceryref01_Name.l0 k l (l.length : Int)) (fun k => by simp only [traceryref01_Name.j0]; rw [if_neg (by simp)]) ?_
        refine name_l0 l (by omega) _ ?_ _ l.length rfl hcl (Nat.le_refl _)
        have e4 : wrap64 ((l.length : Int) - ((core l).length : Int)) = ((l.length - (core l).length : Nat) : Int) := by rw [wrap_id _ (by omega)]; omega
        by_cases h4 : l.length - (core l).length ≤ 3
        · refine Ev.step (f := fun k => traceryref01_Name.l1 k l ((core l).length : Int) 0) (fun k => by simp only [traceryref01_Name.j2]; rw [e4, if_neg (by omega)]) ?_
          have hf := name_l1 l (by omega) (core l).length hcl _ 0 rfl (fun j hj => by omega)
          have : isName l = decide (∀ j, j < (core l).length → l.getD j 0 = 1 ∨ l.getD j 0 = 2) := by
            unfold isName
            congr 1
            simp only [eq_iff_iff, all_core]
            constructor
            · rintro ⟨_, _, _, _, h⟩; exact h
            · intro h; exact ⟨by omega, by omega, h3, h4, h⟩
          rw [this]
          exact hf
        · have : isName l = false := decide_eq_false (by omega)
          rw [this]
          exact Ev.step (f := fun _ => some false) (fun k => by simp only [traceryref01_Name.j2]; rw [e4, if_pos (by omega)]) (Ev.now _)
      · have : isName l = false := decide_eq_false (fun h => h3 h.2.2.1)
        rw [this]
        have e3 : (rd l 0 != 1) = true := by simp only [rd]; rw [show (0 : Int).toNat = 0 from rfl]; simpa using h3
        rw [e3]
        exact hno

theorem name_ev (s : ByteArray) (hs : s.size ≤ 3000) : Ev (fun k => traceryref01_Name.f k s) (Text.name s) := by
  have hc := classes_ev s hs s.size 0 [] (by omega) (by omega) (by simp)
  have hn : Text.name s = isName (classesAt s s.size 0) := by
    unfold Text.name Text.allRunes
    rw [nameGo_classes s s.size 0 0 0 (by omega) (by omega), nameL_is]
  rw [hn]
  exact Ev.bind (f := fun k t148 => (if (t148.length : Int) < 1 then (traceryref01_Name.j0 k t148 true) else (if (t148.length : Int) > 16 then (traceryref01_Name.j0 k t148 true) else (if 0 < (t148.length : Int) then (traceryref01_Name.j0 k t148 ((rd t148 0) != 1)) else (none))))) hc (name_list _)

/-! ### numbers -/
theorem valGo_neg : ∀ (l : List UInt8) (a : Int), (valGo l a).2 = false → (valGo l a).1 = 0
  | [], a => by simp [valGo]
  | x :: l, a => by
    simp only [valGo]
    split
    · exact valGo_neg l _
    · simp
theorem valGo_bound : ∀ (l : List UInt8) (a : Int), 0 ≤ a → (valGo l a).2 = true → 0 ≤ (valGo l a).1
  | [], a => by simp [valGo]
  | x :: l, a => by
    intro h0
    simp only [valGo]
    split
    · rename_i h
      exact valGo_bound l _ (by omega)
    · simp

def numInt (x : Int × Bool) : Int := if x.2 = true then x.1 else -1

theorem num_l0 (s : ByteArray) (hs : s.size ≤ 9) : ∀ (d i : Nat) (n : Int), s.size - i = d → i ≤ s.size → 0 ≤ n → n < Text.ten i → Ev (fun k => traceryref01_Number.l0 k s n i) (numInt (valGo (s.data.toList.drop i) n))
  | 0, i, n => fun hd hi h0 hn => by
    rw [List.drop_of_length_le (by rw [Text.data_len]; omega)]
    refine Ev.step (f := fun _ => some n) (fun k => ?_) (Ev.now _)
    simp only [traceryref01_Number.l0]
    rw [if_neg (by omega)]
  | d + 1, i, n => fun hd hi h0 hn => by
    have hl : i < s.data.toList.length := by rw [Text.data_len]; omega
    rw [List.drop_eq_getElem_cons hl]
    have hb := bt_nat s i (by omega)
    rw [Text.get_data] at hb
    have hlt := (s.data.toList[i]'hl).toNat_lt
    simp only [valGo]
    generalize (s.data.toList[i]'hl).toNat = b at hb hlt
    have h8 := Text.ten_le (show i ≤ 8 by omega)
    simp only [show Text.ten 8 = 100000000 from rfl] at h8
    by_cases hd : 48 ≤ (b : Int) ∧ (b : Int) ≤ 57
    · rw [if_pos hd]
      have ih := num_l0 s hs d (i + 1) (10 * n + ((b : Int) - 48)) (by omega) (by omega) (by omega) (by simp only [Text.ten]; omega)
      refine Ev.step (f := fun k => traceryref01_Number.l0 k s (10 * n + ((b : Int) - 48)) ((i + 1 : Nat) : Int)) (fun k => ?_) ih
      simp only [traceryref01_Number.l0]
      rw [if_pos (by omega), if_pos (by omega), hb, if_neg (by omega), if_neg (by omega), wrap_id (n * 10) (by omega), wrap_id (b : Int) (by omega), wrap_id (n * 10 + (b : Int)) (by omega), wrap_id (n * 10 + (b : Int) - 48) (by omega), wrap_id ((i : Int) + 1) (by omega), show n * 10 + (b : Int) - 48 = 10 * n + ((b : Int) - 48) by omega]
      rfl
    · rw [if_neg hd]
      refine Ev.step (f := fun _ => some (-1)) (fun k => ?_) (Ev.now _)
      simp only [traceryref01_Number.l0]
      rw [if_pos (by omega), if_pos (by omega), hb]
      by_cases h1 : (b : Int) < 48
      · rw [if_pos h1]
      · rw [if_neg h1, if_pos (by omega)]

theorem number_ev (s : ByteArray) (hs : s.size ≤ 3000) : Ev (fun k => traceryref01_Number.f k s) (numInt (Text.number s)) := by
  have hno : Ev (fun k => traceryref01_Number.j0 k s true) (-1) := Ev.step (f := fun _ => some (-1)) (fun k => by simp only [traceryref01_Number.j0]; rw [if_pos trivial]) (Ev.now _)
  rw [number_bytes]
  unfold traceryref01_Number.f
  by_cases h1 : (s.size : Int) < 1
  · rw [if_pos (.inl (by omega))]
    exact Ev.congr (fun k => by rw [if_pos h1]) hno
  by_cases h2 : (s.size : Int) > 9
  · rw [if_pos (.inr (.inl (by omega)))]
    exact Ev.congr (fun k => by rw [if_neg h1, if_pos h2]) hno
  have hb0 : bt s 0 = Text.bt0 s := by unfold bt Text.bt0; rfl
  have hrun : ¬ ((Text.bt0 s = 48) ∧ s.size ≠ 1) → Ev (fun k => traceryref01_Number.j0 k s false) (numInt (valGo s.data.toList 0)) := by
    intro _
    exact Ev.step (f := fun k => traceryref01_Number.l0 k s 0 0) (fun k => by simp only [traceryref01_Number.j0]; rw [if_neg (by simp)]) (num_l0 s (by omega) _ 0 0 rfl (by omega) (by omega) (by decide))
  by_cases h3 : Text.bt0 s = 48
  · refine Ev.congr (f := fun k => traceryref01_Number.j0 k s (decide ((s.size : Int) > 1))) (fun k => by rw [if_neg h1, if_neg h2, if_pos (by omega), hb0, if_pos h3]) ?_
    by_cases h4 : s.size = 1
    · rw [if_neg (by omega), decide_eq_false (by omega)]
      exact hrun (by omega)
    · rw [if_pos (.inr (.inr ⟨h3, h4⟩)), decide_eq_true (by omega)]
      exact hno
  · rw [if_neg (by omega)]
    refine Ev.congr (f := fun k => traceryref01_Number.j0 k s false) (fun k => by rw [if_neg h1, if_neg h2, if_pos (by omega), hb0, if_neg h3]) ?_
    exact hrun (fun h => h3 h.1)

/-! ### the law WordClasses -/
theorem classes_pure : tracerylaw01_WordClasses.Pure := by
  intro r s hr hs
  apply Ev.rounds
  unfold tracerylaw01_WordClasses.f
  simp only [awake_true, Option.bind_some, if_true]
  by_cases h : s.size ≤ 3000
  · rw [decide_eq_false (by omega)]
    have hN := number_ev s h
    have hB := bad_ev s h s.size 0 (by omega) (by omega)
    have hNa := name_ev s h
    have hC := class_ev r
    have hr2 : wrap64 r = r := by
      apply wrap_id
      have h1 : IntKind.i32.min = -2147483648 := rfl
      have h2 : IntKind.i32.max = 2147483647 := rfl
      simp [Lit.wf] at hr
      omega
    have hWC : Ev (fun k => word_Class.f k r) (Text.cls r) := Ev.of (fun k => word_Class.mono r k) (word_Class_f r)
    have hbt : ∀ (l : List (Nat × Nat)), (badInt (Text.badGo l) ≥ 0 ↔ (Text.badGo l).2 = true) ∧ (Text.badGo l).1 = mx (badInt (Text.badGo l)) 0 := by
      intro l
      induction l with
      | nil => simp [Text.badGo, badInt, mx]
      | cons x l ih =>
        obtain ⟨p, r⟩ := x
        rw [badGo_cons]
        split
        · simp [badInt, mx]; omega
        · exact ih
    have hnt : (numInt (Text.number s) ≥ 0 ↔ (Text.number s).2 = true) ∧ (Text.number s).1 = mx (numInt (Text.number s)) 0 := by
      have hb : ∀ x : Int × Bool, (x.2 = false → x.1 = 0) → (x.2 = true → 0 ≤ x.1) → (numInt x ≥ 0 ↔ x.2 = true) ∧ x.1 = mx (numInt x) 0 := by
        rintro ⟨n, b⟩ h1 h2
        cases b with
        | true =>
          have := h2 rfl
          simp only [numInt, if_true]
          unfold mx
          constructor
          · simpa using this
          · rw [if_neg (by simp only [] at this; omega)]
        | false =>
          have := h1 rfl
          simp only [] at this
          subst this
          simp [numInt, mx]
      refine hb _ (fun e => ?_) (fun e => ?_)
      · rw [number_bytes] at e ⊢
        split
        · rfl
        · rename_i hh
          rw [if_neg hh] at e
          exact valGo_neg _ _ e
      · rw [number_bytes] at e ⊢
        split
        · exact Int.le_refl _
        · rename_i hh
          rw [if_neg hh] at e
          exact valGo_bound _ _ (Int.le_refl _) e
    refine Ev.step (f := fun k => (some (Text.number s)).bind fun bt157 => ((traceryref01_Number.f k s).bind fun t159 => ((some (Text.bad s)).bind fun bt160 => ((traceryref01_Bad.f k s).bind fun t162 => ((word_Class.f k r).bind fun t163 => ((traceryref01_Class.f k r).bind fun t164 => (if t163 = t164 then ((some (Text.name s)).bind fun t165 => ((traceryref01_Name.f k s).bind fun t166 => (if (t165 == t166) = true then (if (bt157.2 == (decide (t159 ≥ 0))) = true then (if bt157.1 = (mx t159 0) then (if (bt160.2 == (decide (t162 ≥ 0))) = true then (some (bt160.1 == (mx t162 0))) else (some false)) else (some false)) else (some false)) else (some false)))) else (some false)))))))) (fun k => ?_) ?_
    · simp only [tracerylaw01_WordClasses.j0]
      rw [if_neg (by simp), hr2]
      unfold word_Number.f word_Bad.f word_Name.f
      rw [if_pos (by omega), if_pos (by omega), if_pos (by omega)]
    · simp only [Option.bind_some]
      refine Ev.bind (f := fun k t159 => ((traceryref01_Bad.f k s).bind fun t162 => ((word_Class.f k r).bind fun t163 => ((traceryref01_Class.f k r).bind fun t164 => (if t163 = t164 then (((traceryref01_Name.f k s).bind fun t166 => (if (Text.name s == t166) = true then (if ((Text.number s).2 == (decide (t159 ≥ 0))) = true then (if (Text.number s).1 = (mx t159 0) then (if ((Text.bad s).2 == (decide (t162 ≥ 0))) = true then (some ((Text.bad s).1 == (mx t162 0))) else (some false)) else (some false)) else (some false)) else (some false)))) else (some false)))))) hN ?_
      refine Ev.bind (f := fun k t162 => ((word_Class.f k r).bind fun t163 => ((traceryref01_Class.f k r).bind fun t164 => (if t163 = t164 then (((traceryref01_Name.f k s).bind fun t166 => (if (Text.name s == t166) = true then (if ((Text.number s).2 == (decide (numInt (Text.number s) ≥ 0))) = true then (if (Text.number s).1 = (mx (numInt (Text.number s)) 0) then (if ((Text.bad s).2 == (decide (t162 ≥ 0))) = true then (some ((Text.bad s).1 == (mx t162 0))) else (some false)) else (some false)) else (some false)) else (some false)))) else (some false))))) hB ?_
      refine Ev.bind (f := fun k t163 => ((traceryref01_Class.f k r).bind fun t164 => (if t163 = t164 then (((traceryref01_Name.f k s).bind fun t166 => (if (Text.name s == t166) = true then (if ((Text.number s).2 == (decide (numInt (Text.number s) ≥ 0))) = true then (if (Text.number s).1 = (mx (numInt (Text.number s)) 0) then (if ((Text.bad s).2 == (decide (badInt (Text.bad s) ≥ 0))) = true then (some ((Text.bad s).1 == (mx (badInt (Text.bad s)) 0))) else (some false)) else (some false)) else (some false)) else (some false)))) else (some false)))) hWC ?_
      refine Ev.bind (f := fun k t164 => (if Text.cls r = t164 then (((traceryref01_Name.f k s).bind fun t166 => (if (Text.name s == t166) = true then (if ((Text.number s).2 == (decide (numInt (Text.number s) ≥ 0))) = true then (if (Text.number s).1 = (mx (numInt (Text.number s)) 0) then (if ((Text.bad s).2 == (decide (badInt (Text.bad s) ≥ 0))) = true then (some ((Text.bad s).1 == (mx (badInt (Text.bad s)) 0))) else (some false)) else (some false)) else (some false)) else (some false)))) else (some false))) hC ?_
      simp only [if_true]
      refine Ev.bind (f := fun k t166 => (if (Text.name s == t166) = true then (if ((Text.number s).2 == (decide (numInt (Text.number s) ≥ 0))) = true then (if (Text.number s).1 = (mx (numInt (Text.number s)) 0) then (if ((Text.bad s).2 == (decide (badInt (Text.bad s) ≥ 0))) = true then (some ((Text.bad s).1 == (mx (badInt (Text.bad s)) 0))) else (some false)) else (some false)) else (some false)) else (some false))) hNa ?_
      obtain ⟨n1, n2⟩ := hnt
      obtain ⟨b1, b2⟩ := hbt (Text.allRunes s)
      refine ⟨0, fun k _ => ?_⟩
      have hx : ∀ (b : Bool) (P : Prop) [Decidable P], (P ↔ b = true) → (b == decide P) = true := by
        intro b P _ h
        cases b <;> simp_all
      rw [if_pos (by simp), if_pos (hx _ _ n1), if_pos n2]
      unfold Text.bad
      rw [if_pos (hx _ _ b1), ← b2]
      simp
  · rw [decide_eq_true (by omega)]
    refine Ev.step (f := fun _ => some true) (fun k => ?_) (Ev.now _)
    simp only [tracerylaw01_WordClasses.j0, awake_true]
    rw [if_pos trivial]
    rfl

end Go.Proofs.Ytdhnoclkepopgaa.PA
