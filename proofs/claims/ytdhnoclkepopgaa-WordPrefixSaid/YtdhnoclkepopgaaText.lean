/- Texts, rune by rune, as a range over a string goes through them; what package word makes of them (plain Lean over the model's own decoder). -/
import Derived.Laws.RangeAny
import Derived.WalkKit
import Derived.Lib.OthersKept
import Derived.Laws.Strings
import Derived.Test.YtdhnoclkepopgaaWWords
namespace Go.Proofs.Ytdhnoclkepopgaa.Text
open Go.RowKit Go.Proofs.YtdhnoclkepopgaaW.PrintWords

/-- The runes from place p on, each with its place: at most f of them. -/
def runes (s : ByteArray) : Nat → Nat → List (Nat × Nat)
  | 0, _ => []
  | f + 1, p => if p < s.size then (p, (Utf8.decode s p).1) :: runes s f (p + (Utf8.decode s p).2) else []
def allRunes (s : ByteArray) : List (Nat × Nat) := runes s s.size 0

theorem width_pos (s : ByteArray) (p : Nat) (h : p < s.size) : 1 ≤ (Utf8.decode s p).2 := by
  by_cases ha : (s[p]'h).toNat < 128
  · rw [decode_ascii s p h ha]
    exact Nat.le_refl _
  · exact (decode_high s p h (by omega)).2
theorem width_le (s : ByteArray) (p : Nat) (h : p < s.size) : p + (Utf8.decode s p).2 ≤ s.size := by
  simp only [Utf8.decode]
  repeat' split
  all_goals simp_all
  all_goals omega
theorem runes_end (s : ByteArray) (f p : Nat) (h : ¬ p < s.size) : runes s f p = [] := by
  cases f with
  | zero => rfl
  | succ f => simp [runes, h]
theorem runes_next (s : ByteArray) (f p : Nat) (h : p < s.size) : runes s (f + 1) p = (p, (Utf8.decode s p).1) :: runes s f (p + (Utf8.decode s p).2) := by
  simp [runes, h]

/-- A rune's class, told step by step. -/
def cls5 (r : Int) : Int := if r = 32 then 4 else 0
def cls4 (r : Int) : Int := if r = 95 ∨ (8242 ≤ r ∧ r ≤ 8244) then 3 else cls5 r
def cls3 (r : Int) : Int := if 48 ≤ r ∧ r ≤ 57 then 2 else cls4 r
def cls2 (r : Int) : Int := if 1040 ≤ r ∧ r ≤ 1103 then 1 else cls3 r
def cls1 (r : Int) : Int := if 913 ≤ r ∧ r ≤ 969 ∧ r ≠ 930 then 1 else cls2 r
def cls0 (r : Int) : Int := if 192 ≤ r ∧ r ≤ 591 ∧ r ≠ 215 ∧ r ≠ 247 then 1 else cls1 r
def cls (r : Int) : Int := if (97 ≤ r ∧ r ≤ 122) ∨ (65 ≤ r ∧ r ≤ 90) then 1 else cls0 r

/-- The first byte; 0: there is none. -/
def bt0 (s : ByteArray) : Int := if h : 0 < s.size then ((s[0]'h).toNat : Int) else 0

def nameGo : List (Nat × Nat) → Int → Int → Bool
  | [], n, g => decide (1 ≤ n ∧ n ≤ 16 ∧ g ≤ 3)
  | (_, r) :: l, n, g =>
    if n = 0 ∧ cls r ≠ 1 then false
    else if cls r = 3 then nameGo l (n + 1) (g + 1)
    else if 0 < g ∨ (cls r ≠ 1 ∧ cls r ≠ 2) then false
    else nameGo l (n + 1) g
def name (s : ByteArray) : Bool := nameGo (allRunes s) 0 0

def numGo : List (Nat × Nat) → Int → Int × Bool
  | [], n => (n, true)
  | (_, r) :: l, n => if cls r = 2 then numGo l (10 * n + (r - 48)) else (0, false)
/-- A text's number. -/
def number (s : ByteArray) : Int × Bool :=
  if s.size = 0 ∨ 9 < s.size ∨ ((bt0 s = 48) ∧ s.size ≠ 1) then (0, false) else numGo (allRunes s) 0

def badGo : List (Nat × Nat) → Int × Bool
  | [] => (0, false)
  | (p, r) :: l => if r = 65533 ∨ (cls r = 0 ∧ ¬ (r = 10 ∨ (43 ≤ r ∧ r ≤ 47) ∨ r = 58 ∨ r = 124)) then ((p : Int), true) else badGo l
def bad (s : ByteArray) : Int × Bool := badGo (allRunes s)

theorem cls_digit {r : Int} (h : cls r = 2) : 48 ≤ r ∧ r ≤ 57 := by
  unfold cls cls0 cls1 cls2 cls3 cls4 cls5 at h
  by_cases h1 : 48 ≤ r ∧ r ≤ 57
  · exact h1
  · rw [if_neg h1] at h
    repeat' split at h
    all_goals omega

theorem data_len (s : ByteArray) : s.data.toList.length = s.size := by rw [Array.length_toList]; rfl
theorem toList_nil (s : ByteArray) : s.toList = [] ↔ s.size = 0 := by
  rw [Go.ByteArray.toList_eq, ← data_len]
  exact List.length_eq_zero_iff.symm
theorem get_data (s : ByteArray) (i : Nat) (h : i < s.size) : s[i]'h = s.data.toList[i]'(by rw [data_len]; exact h) := rfl
theorem list_nought : ∀ (l : List UInt8) (h : 0 < l.length), l = [48] ↔ l.length = 1 ∧ ((l[0]'h).toNat : Int) = 48
  | [c], _ => by
    constructor
    · intro h
      cases h
      exact ⟨rfl, rfl⟩
    · rintro ⟨_, h⟩
      have h : (c.toNat : Int) = 48 := h
      have : c = 48 := UInt8.toNat_inj.1 (by rw [show (48 : UInt8).toNat = 48 from rfl]; omega)
      rw [this]
  | c :: d :: l, _ => by
    constructor
    · intro h; cases h
    · rintro ⟨h, _⟩; simp at h
theorem toList_nought (s : ByteArray) (h : 0 < s.size) : s.toList = [48] ↔ s.size = 1 ∧ ((s[0]'h).toNat : Int) = 48 := by
  rw [Go.ByteArray.toList_eq, ← data_len, get_data]
  exact list_nought _ _

/-- Ten times over, so often. -/
def ten : Nat → Int
  | 0 => 1
  | k + 1 => 10 * ten k
theorem ten_pos : ∀ k, 1 ≤ ten k
  | 0 => by simp [ten]
  | k + 1 => by have := ten_pos k; simp only [ten]; omega
theorem ten_add (a : Nat) : ∀ d, ten a ≤ ten (a + d)
  | 0 => Int.le_refl _
  | d + 1 => by have h1 := ten_add a d; have h2 := ten_pos (a + d); rw [← Nat.add_assoc]; simp only [ten]; omega
theorem ten_le {a b : Nat} (h : a ≤ b) : ten a ≤ ten b := by
  have := ten_add a (b - a)
  rwa [Nat.add_sub_cancel' h] at this
theorem ten_nine {a : Nat} (h : a ≤ 9) : ten a ≤ 1000000000 := ten_le h

/-! ### the runes of a text -/
section
variable (s : ByteArray) (p : Nat)
theorem dec_ascii (h0 : (s.get! p).toNat < 128) : Utf8.decode s p = ((s.get! p).toNat, 1) := by
  simp only [Utf8.decode, Nat.add_zero]
  rw [if_pos h0]
theorem dec_other (h0 : 128 ≤ (s.get! p).toNat) (h : (s.get! p).toNat < 192 ∨ 248 ≤ (s.get! p).toNat) : Utf8.decode s p = (65533, 1) := by
  simp only [Utf8.decode, Nat.add_zero]
  rw [if_neg (by omega), if_neg (by simp; omega), if_neg (by simp; omega), if_neg (by simp; omega)]
  rfl
theorem dec_two (h0 : 192 ≤ (s.get! p).toNat ∧ (s.get! p).toNat < 224) (h1 : p + 1 < s.size) (h2 : 128 ≤ (s.get! (p + 1)).toNat ∧ (s.get! (p + 1)).toNat < 192) :
    Utf8.decode s p = if 128 ≤ (s.get! p).toNat % 32 * 64 + (s.get! (p + 1)).toNat % 64 then ((s.get! p).toNat % 32 * 64 + (s.get! (p + 1)).toNat % 64, 2) else (65533, 1) := by
  simp only [Utf8.decode, Nat.add_zero]
  rw [if_neg (by omega), if_pos (by simp; omega)]
  rfl
theorem dec_two_no (h0 : 192 ≤ (s.get! p).toNat ∧ (s.get! p).toNat < 224) (h1 : ¬ (p + 1 < s.size ∧ 128 ≤ (s.get! (p + 1)).toNat ∧ (s.get! (p + 1)).toNat < 192)) : Utf8.decode s p = (65533, 1) := by
  simp only [Utf8.decode, Nat.add_zero]
  rw [if_neg (by omega), if_neg (by simp; omega), if_neg (by simp; omega), if_neg (by simp; omega)]
  rfl
theorem dec_three (h0 : 224 ≤ (s.get! p).toNat ∧ (s.get! p).toNat < 240) (h1 : p + 2 < s.size) (h2 : 128 ≤ (s.get! (p + 1)).toNat ∧ (s.get! (p + 1)).toNat < 192) (h3 : 128 ≤ (s.get! (p + 2)).toNat ∧ (s.get! (p + 2)).toNat < 192) (c : Nat) (hc : c = (s.get! p).toNat % 16 * 4096 + (s.get! (p + 1)).toNat % 64 * 64 + (s.get! (p + 2)).toNat % 64) :
    Utf8.decode s p = if 2048 ≤ c ∧ ¬ (55296 ≤ c ∧ c ≤ 57343) then (c, 3) else (65533, 1) := by
  simp only [Utf8.decode, Nat.add_zero]
  rw [if_neg (by omega), if_neg (by simp; omega), if_pos (by simp; omega)]
  subst hc
  generalize hq : (s.get! p).toNat % 16 * 4096 + (s.get! (p + 1)).toNat % 64 * 64 + (s.get! (p + 2)).toNat % 64 = c
  by_cases h : 2048 ≤ c ∧ ¬ (55296 ≤ c ∧ c ≤ 57343)
  · rw [if_pos h, if_pos (by simp [Utf8.valid]; omega)]
  · rw [if_neg h, if_neg (by simp [Utf8.valid]; omega)]
    rfl
theorem dec_three_no (h0 : 224 ≤ (s.get! p).toNat ∧ (s.get! p).toNat < 240) (h1 : ¬ (p + 2 < s.size ∧ (128 ≤ (s.get! (p + 1)).toNat ∧ (s.get! (p + 1)).toNat < 192) ∧ (128 ≤ (s.get! (p + 2)).toNat ∧ (s.get! (p + 2)).toNat < 192))) : Utf8.decode s p = (65533, 1) := by
  simp only [Utf8.decode, Nat.add_zero]
  rw [if_neg (by omega), if_neg (by simp; omega), if_neg (by simp; omega), if_neg (by simp; omega)]
  rfl
theorem dec_four (h0 : 240 ≤ (s.get! p).toNat ∧ (s.get! p).toNat < 248) (h1 : p + 3 < s.size) (h2 : 128 ≤ (s.get! (p + 1)).toNat ∧ (s.get! (p + 1)).toNat < 192) (h3 : 128 ≤ (s.get! (p + 2)).toNat ∧ (s.get! (p + 2)).toNat < 192) (h4 : 128 ≤ (s.get! (p + 3)).toNat ∧ (s.get! (p + 3)).toNat < 192) (c : Nat) (hc : c = (s.get! p).toNat % 8 * 262144 + (s.get! (p + 1)).toNat % 64 * 4096 + (s.get! (p + 2)).toNat % 64 * 64 + (s.get! (p + 3)).toNat % 64) :
    Utf8.decode s p = if 65536 ≤ c ∧ c ≤ 1114111 then (c, 4) else (65533, 1) := by
  simp only [Utf8.decode, Nat.add_zero]
  rw [if_neg (by omega), if_neg (by simp; omega), if_neg (by simp; omega), if_pos (by simp; omega)]
  subst hc
  generalize hq : (s.get! p).toNat % 8 * 262144 + (s.get! (p + 1)).toNat % 64 * 4096 + (s.get! (p + 2)).toNat % 64 * 64 + (s.get! (p + 3)).toNat % 64 = c
  by_cases h : 65536 ≤ c ∧ c ≤ 1114111
  · rw [if_pos h, if_pos (by simp [Utf8.valid]; omega)]
  · rw [if_neg h, if_neg (by simp [Utf8.valid]; omega)]
    rfl
theorem dec_four_no (h0 : 240 ≤ (s.get! p).toNat ∧ (s.get! p).toNat < 248) (h1 : ¬ (p + 3 < s.size ∧ (128 ≤ (s.get! (p + 1)).toNat ∧ (s.get! (p + 1)).toNat < 192) ∧ (128 ≤ (s.get! (p + 2)).toNat ∧ (s.get! (p + 2)).toNat < 192) ∧ (128 ≤ (s.get! (p + 3)).toNat ∧ (s.get! (p + 3)).toNat < 192))) : Utf8.decode s p = (65533, 1) := by
  simp only [Utf8.decode, Nat.add_zero]
  rw [if_neg (by omega), if_neg (by simp; omega), if_neg (by simp; omega), if_neg (by simp; omega)]
  rfl
end


theorem get_extract (s : ByteArray) (m j : Nat) (h : j < m) (hm : m ≤ s.size) : (s.extract 0 m).get! j = s.get! j := by
  have h1 : j < (s.extract 0 m).size := by rw [ByteArray.size_extract]; omega
  have e1 := get_at (s.extract 0 m) j h1
  have e2 := get_at s j (by omega)
  rw [Nat.add_zero] at e1 e2
  rw [e1, e2, ByteArray.getElem_extract]
  congr 1
  omega
/-- A rune that ends within a prefix is the prefix's. -/
theorem decode_prefix (s : ByteArray) (m p : Nat) (hm : m ≤ s.size) (hp : p < m) (h : p + (Utf8.decode s p).2 ≤ m) : Utf8.decode (s.extract 0 m) p = Utf8.decode s p := by
  have hz : (s.extract 0 m).size = m := by rw [ByteArray.size_extract]; omega
  have g0 := get_extract s m p (by omega) hm
  have g1 : p + 1 < m → (s.extract 0 m).get! (p + 1) = s.get! (p + 1) := fun h => get_extract s m _ h hm
  have g2 : p + 2 < m → (s.extract 0 m).get! (p + 2) = s.get! (p + 2) := fun h => get_extract s m _ h hm
  have g3 : p + 3 < m → (s.extract 0 m).get! (p + 3) = s.get! (p + 3) := fun h => get_extract s m _ h hm
  have D1 := dec_ascii (s.extract 0 m) p
  have D2 := dec_other (s.extract 0 m) p
  have D3 := dec_two (s.extract 0 m) p
  have D4 := dec_two_no (s.extract 0 m) p
  have D5 := dec_three (s.extract 0 m) p
  have D6 := dec_three_no (s.extract 0 m) p
  have D7 := dec_four (s.extract 0 m) p
  have D8 := dec_four_no (s.extract 0 m) p
  have d1 := dec_ascii s p
  have d2 := dec_other s p
  have d3 := dec_two s p
  have d4 := dec_two_no s p
  have d5 := dec_three s p
  have d6 := dec_three_no s p
  have d7 := dec_four s p
  have d8 := dec_four_no s p
  rw [g0, hz] at *
  generalize (s.get! p).toNat = b0 at *
  by_cases c0 : b0 < 128
  · rw [D1 c0, d1 c0]
  by_cases c1 : b0 < 192 ∨ 248 ≤ b0
  · rw [D2 (by omega) c1, d2 (by omega) c1]
  by_cases c2 : b0 < 224
  · by_cases q : p + 1 < s.size ∧ 128 ≤ (s.get! (p + 1)).toNat ∧ (s.get! (p + 1)).toNat < 192
    · have e := d3 (by omega) q.1 q.2
      by_cases r : p + 1 < m
      · rw [e, D3 (by omega) r (by rw [g1 r]; exact q.2), g1 r]
      · by_cases x : 128 ≤ b0 % 32 * 64 + (s.get! (p + 1)).toNat % 64
        · rw [if_pos x] at e
          rw [e] at h
          simp only [] at h
          omega
        · rw [if_neg x] at e
          rw [e, D4 (by omega) (by omega)]
    · rw [d4 (by omega) q]
      by_cases r : p + 1 < m
      · exact D4 (by omega) (by rw [g1 r]; omega)
      · exact D4 (by omega) (by omega)
  by_cases c3 : b0 < 240
  · by_cases q : p + 2 < s.size ∧ (128 ≤ (s.get! (p + 1)).toNat ∧ (s.get! (p + 1)).toNat < 192) ∧ (128 ≤ (s.get! (p + 2)).toNat ∧ (s.get! (p + 2)).toNat < 192)
    · have e := d5 (by omega) q.1 q.2.1 q.2.2 _ rfl
      by_cases r : p + 2 < m
      · rw [e, D5 (by omega) r (by rw [g1 (by omega)]; exact q.2.1) (by rw [g2 r]; exact q.2.2) _ rfl, g1 (by omega), g2 r]
      · generalize b0 % 16 * 4096 + (s.get! (p + 1)).toNat % 64 * 64 + (s.get! (p + 2)).toNat % 64 = c at e
        by_cases x : 2048 ≤ c ∧ ¬ (55296 ≤ c ∧ c ≤ 57343)
        · rw [if_pos x] at e
          rw [e] at h
          simp only [] at h
          omega
        · rw [if_neg x] at e
          rw [e, D6 (by omega) (by omega)]
    · rw [d6 (by omega) q]
      by_cases r : p + 2 < m
      · exact D6 (by omega) (by rw [g1 (by omega), g2 r]; omega)
      · exact D6 (by omega) (by omega)
  · by_cases q : p + 3 < s.size ∧ (128 ≤ (s.get! (p + 1)).toNat ∧ (s.get! (p + 1)).toNat < 192) ∧ (128 ≤ (s.get! (p + 2)).toNat ∧ (s.get! (p + 2)).toNat < 192) ∧ (128 ≤ (s.get! (p + 3)).toNat ∧ (s.get! (p + 3)).toNat < 192)
    · have e := d7 (by omega) q.1 q.2.1 q.2.2.1 q.2.2.2 _ rfl
      by_cases r : p + 3 < m
      · rw [e, D7 (by omega) r (by rw [g1 (by omega)]; exact q.2.1) (by rw [g2 (by omega)]; exact q.2.2.1) (by rw [g3 r]; exact q.2.2.2) _ rfl, g1 (by omega), g2 (by omega), g3 r]
      · generalize b0 % 8 * 262144 + (s.get! (p + 1)).toNat % 64 * 4096 + (s.get! (p + 2)).toNat % 64 * 64 + (s.get! (p + 3)).toNat % 64 = c at e
        by_cases x : 65536 ≤ c ∧ c ≤ 1114111
        · rw [if_pos x] at e
          rw [e] at h
          simp only [] at h
          omega
        · rw [if_neg x] at e
          rw [e, D8 (by omega) (by omega)]
    · rw [d8 (by omega) q]
      by_cases r : p + 3 < m
      · exact D8 (by omega) (by rw [g1 (by omega), g2 (by omega), g3 r]; omega)
      · exact D8 (by omega) (by omega)

/-- A place that a range over a string comes to, and the runes ahead of it. -/
inductive Reach (s : ByteArray) : Nat → List (Nat × Nat) → Prop
  | zero : Reach s 0 []
  | next {p : Nat} {l : List (Nat × Nat)} : Reach s p l → p < s.size → Reach s (p + (Utf8.decode s p).2) (l ++ [(p, (Utf8.decode s p).1)])
theorem Reach.le {s : ByteArray} {p : Nat} {l : List (Nat × Nat)} (h : Reach s p l) : p ≤ s.size := by
  cases h with
  | zero => omega
  | next _ h => exact width_le s _ h
theorem Reach.runes {s : ByteArray} {p : Nat} {l : List (Nat × Nat)} (h : Reach s p l) : ∀ f, Text.runes s (f + l.length) 0 = l ++ Text.runes s f p := by
  induction h with
  | zero => intro f; rfl
  | @next p l hr hp ih =>
    intro f
    have := ih (f + 1)
    rw [runes_next s f p hp] at this
    rw [List.length_append, List.length_singleton, show f + (l.length + 1) = f + 1 + l.length by omega, this]
    simp
theorem runes_fuel (s : ByteArray) : ∀ (f g p : Nat), s.size ≤ p + f → s.size ≤ p + g → Text.runes s f p = Text.runes s g p
  | f, g, p => by
    intro hf hg
    by_cases h : p < s.size
    · obtain ⟨f, rfl⟩ : ∃ m, f = m + 1 := ⟨f - 1, by omega⟩
      obtain ⟨g, rfl⟩ : ∃ m, g = m + 1 := ⟨g - 1, by omega⟩
      have hw := width_pos s p h
      rw [runes_next s f p h, runes_next s g p h, runes_fuel s f g _ (by omega) (by omega)]
    · rw [runes_end s f p h, runes_end s g p h]
  termination_by f => f
theorem Reach.prefix_ {s : ByteArray} {p : Nat} {l : List (Nat × Nat)} (h : Reach s p l) : ∀ m, p ≤ m → m ≤ s.size → Reach (s.extract 0 m) p l := by
  induction h with
  | zero => intro m _ _; exact .zero
  | @next p l hr hp ih =>
    intro m h1 h2
    have hw := width_pos s p hp
    have hd := decode_prefix s m p h2 (by omega) h1
    have hz : (s.extract 0 m).size = m := by rw [ByteArray.size_extract]; omega
    have := Reach.next (ih m (by omega) h2) (by rw [hz]; omega)
    rwa [hd] at this
theorem Reach.all {s : ByteArray} {p : Nat} {l : List (Nat × Nat)} (h : Reach s p l) : ∃ t, allRunes s = l ++ t := by
  refine ⟨Text.runes s s.size p, ?_⟩
  have := h.runes s.size
  rw [← this]
  exact runes_fuel s _ _ 0 (by omega) (by omega)
theorem Reach.all_prefix {s : ByteArray} {p : Nat} {l : List (Nat × Nat)} (h : Reach s p l) : allRunes (s.extract 0 p) = l := by
  have hz : (s.extract 0 p).size = p := by have := h.le; rw [ByteArray.size_extract]; omega
  have h2 := (h.prefix_ p (Nat.le_refl _) h.le).runes p
  have h3 : Text.runes (s.extract 0 p) p p = [] := runes_end _ _ _ (by rw [hz]; omega)
  rw [h3, List.append_nil] at h2
  rw [← h2]
  exact runes_fuel _ _ _ 0 (by omega) (by omega)
theorem Reach.nonempty {s : ByteArray} {p : Nat} {l : List (Nat × Nat)} (h : Reach s p l) (hp : 0 < p) : l ≠ [] := by
  cases h with
  | zero => omega
  | next _ _ => simp
theorem nameGo_bounds : ∀ (l : List (Nat × Nat)) (n g : Int), nameGo l n g = true → n ≤ 16 ∧ g ≤ 3
  | [], n, g => by
    simp only [nameGo, decide_eq_true_eq]
    rintro ⟨_, h⟩; exact h
  | (_, r) :: l, n, g => by
    intro h
    simp only [nameGo] at h
    split at h
    · cases h
    · split at h
      · have := nameGo_bounds l _ _ h; omega
      · split at h
        · cases h
        · have := nameGo_bounds l _ _ h; omega
theorem nameGo_prefix : ∀ (l t : List (Nat × Nat)) (n g : Int), nameGo (l ++ t) n g = true → 0 ≤ n → (l ≠ [] ∨ 1 ≤ n) → nameGo l n g = true
  | [], t, n, g => by
    intro h h0 hl
    have := nameGo_bounds _ _ _ h
    simp only [nameGo, decide_eq_true_eq]
    rcases hl with hl | hl
    · exact absurd rfl hl
    · exact ⟨hl, this⟩
  | (p, r) :: l, t, n, g => by
    intro h h0 hl
    simp only [List.cons_append, nameGo] at h ⊢
    split at h
    · cases h
    · rename_i h1
      rw [if_neg h1]
      split at h
      · rename_i h2
        rw [if_pos h2]
        exact nameGo_prefix l t _ _ h (by omega) (.inr (by omega))
      · rename_i h2
        rw [if_neg h2]
        split at h
        · cases h
        · rename_i h3
          rw [if_neg h3]
          exact nameGo_prefix l t _ _ h (by omega) (.inr (by omega))
/-- What a name begins with, cut off where a rune begins, is a name. -/
theorem name_prefix {s : ByteArray} {p : Nat} {l : List (Nat × Nat)} (h : Reach s p l) (hp : 0 < p) (hn : name s = true) : name (s.extract 0 p) = true := by
  unfold name at hn ⊢
  obtain ⟨t, ht⟩ := h.all
  rw [ht] at hn
  rw [h.all_prefix]
  exact nameGo_prefix l t 0 0 hn (by omega) (.inl (h.nonempty hp))

end Go.Proofs.Ytdhnoclkepopgaa.Text
namespace Go.Proofs.Ytdhnoclkepopgaa
open Go.RowKit Go.Proofs.YtdhnoclkepopgaaW.PrintWords
theorem iter_pos {w : World} {k : Nat} {s : ByteArray} {p : Nat} (h : w.heap[k]? = some (.stringIter s p)) : w.iterPos k = p := by simp [World.iterPos, h]
theorem R_iterAt {α : Type} {d : Kd α} {e base : Nat} {ok : Nat → Prop} {w : World} {v : Value} {xs : List α} (h : d.R e w base ok v xs) {k : Nat} (hk : ∀ j, ok j → j ≠ k) (s : ByteArray) (p : Nat) : d.R e (w.iterAt k s p) base ok v xs :=
  Kd.R_step h (fun j hj _ => Lib.iterAt_other _ _ _ _ _ (hk j hj))
end Go.Proofs.Ytdhnoclkepopgaa
