/- Texts, rune by rune, as a range over a string goes through them; what package word makes of them (plain Lean over the model's own decoder). -/
import Derived.Laws.RangeAny
import Derived.WalkKit
import Derived.Lib.OthersKept
import Derived.Laws.Strings
import Derived.Test.YtdhnoclkepopgaaWWords
namespace Go.Proofs.Ytdhnoclkepopgaa.Text
open Go.RowKit Go.Proofs.YtdhnoclkepopgaaW.PrintWords

/-- The runes from place p on, each with its place: at most f of them. -/
def runes (s : ByteArray) : Nat → Nat → List (Nat × Nat)
  | 0, _ => []
  | f + 1, p => if p < s.size then (p, (Utf8.decode s p).1) :: runes s f (p + (Utf8.decode s p).2) else []
def allRunes (s : ByteArray) : List (Nat × Nat) := runes s s.size 0

theorem width_pos (s : ByteArray) (p : Nat) (h : p < s.size) : 1 ≤ (Utf8.decode s p).2 := by
  by_cases ha : (s[p]'h).toNat < 128
  · rw [decode_ascii s p h ha]
    exact Nat.le_refl _
  · exact (decode_high s p h (by omega)).2
theorem width_le (s : ByteArray) (p : Nat) (h : p < s.size) : p + (Utf8.decode s p).2 ≤ s.size := by
  simp only [Utf8.decode]
  repeat' split
  all_goals simp_all
  all_goals omega
theorem runes_end (s : ByteArray) (f p : Nat) (h : ¬ p < s.size) : runes s f p = [] := by
  cases f with
  | zero => rfl
  | succ f => simp [runes, h]
theorem runes_next (s : ByteArray) (f p : Nat) (h : p < s.size) : runes s (f + 1) p = (p, (Utf8.decode s p).1) :: runes s f (p + (Utf8.decode s p).2) := by
  simp [runes, h]

/-- A rune's class, told step by step. -/
def cls5 (r : Int) : Int := if r = 32 then 4 else 0
def cls4 (r : Int) : Int := if r = 95 ∨ (8242 ≤ r ∧ r ≤ 8244) then 3 else cls5 r
def cls3 (r : Int) : Int := if 48 ≤ r ∧ r ≤ 57 then 2 else cls4 r
def cls2 (r : Int) : Int := if 1040 ≤ r ∧ r ≤ 1103 then 1 else cls3 r
def cls1 (r : Int) : Int := if 913 ≤ r ∧ r ≤ 969 ∧ r ≠ 930 then 1 else cls2 r
def cls0 (r : Int) : Int := if 192 ≤ r ∧ r ≤ 591 ∧ r ≠ 215 ∧ r ≠ 247 then 1 else cls1 r
def cls (r : Int) : Int := if (97 ≤ r ∧ r ≤ 122) ∨ (65 ≤ r ∧ r ≤ 90) then 1 else cls0 r

/-- The first byte; 0: there is none. -/
def bt0 (s : ByteArray) : Int := if h : 0 < s.size then ((s[0]'h).toNat : Int) else 0

def nameGo : List (Nat × Nat) → Int → Int → Bool
  | [], n, g => decide (1 ≤ n ∧ n ≤ 16 ∧ g ≤ 3)
  | (_, r) :: l, n, g =>
    if n = 0 ∧ cls r ≠ 1 then false
    else if cls r = 3 then nameGo l (n + 1) (g + 1)
    else if 0 < g ∨ (cls r ≠ 1 ∧ cls r ≠ 2) then false
    else nameGo l (n + 1) g
def name (s : ByteArray) : Bool := nameGo (allRunes s) 0 0

def numGo : List (Nat × Nat) → Int → Int × Bool
  | [], n => (n, true)
  | (_, r) :: l, n => if cls r = 2 then numGo l (10 * n + (r - 48)) else (0, false)
/-- A text's number. -/
def number (s : ByteArray) : Int × Bool :=
  if s.size = 0 ∨ 9 < s.size ∨ ((bt0 s = 48) ∧ s.size ≠ 1) then (0, false) else numGo (allRunes s) 0

def badGo : List (Nat × Nat) → Int × Bool
  | [] => (0, false)
  | (p, r) :: l => if r = 65533 ∨ (cls r = 0 ∧ ¬ (r = 10 ∨ (43 ≤ r ∧ r ≤ 47) ∨ r = 58 ∨ r = 124)) then ((p : Int), true) else badGo l
def bad (s : ByteArray) : Int × Bool := badGo (allRunes s)

theorem cls_digit {r : Int} (h : cls r = 2) : 48 ≤ r ∧ r ≤ 57 := by
  unfold cls cls0 cls1 cls2 cls3 cls4 cls5 at h
  by_cases h1 : 48 ≤ r ∧ r ≤ 57
  · exact h1
  · rw [if_neg h1] at h
    repeat' split at h
    all_goals omega

theorem data_len (s : ByteArray) : s.data.toList.length = s.size := by rw [Array.length_toList]; rfl
theorem toList_nil (s : ByteArray) : s.toList = [] ↔ s.size = 0 := by
  rw [Go.ByteArray.toList_eq, ← data_len]
  exact List.length_eq_zero_iff.symm
theorem get_data (s : ByteArray) (i : Nat) (h : i < s.size) : s[i]'h = s.data.toList[i]'(by rw [data_len]; exact h) := rfl
theorem list_nought : ∀ (l : List UInt8) (h : 0 < l.length), l = [48] ↔ l.length = 1 ∧ ((l[0]'h).toNat : Int) = 48
  | [c], _ => by
    constructor
    · intro h
      cases h
      exact ⟨rfl, rfl⟩
    · rintro ⟨_, h⟩
      have h : (c.toNat : Int) = 48 := h
      have : c = 48 := UInt8.toNat_inj.1 (by rw [show (48 : UInt8).toNat = 48 from rfl]; omega)
      rw [this]
  | c :: d :: l, _ => by
    constructor
    · intro h; cases h
    · rintro ⟨h, _⟩; simp at h
theorem toList_nought (s : ByteArray) (h : 0 < s.size) : s.toList = [48] ↔ s.size = 1 ∧ ((s[0]'h).toNat : Int) = 48 := by
  rw [Go.ByteArray.toList_eq, ← data_len, get_data]
  exact list_nought _ _

/-- Ten times over, so often. -/
def ten : Nat → Int
  | 0 => 1
  | k + 1 => 10 * ten k
theorem ten_pos : ∀ k, 1 ≤ ten k
  | 0 => by simp [ten]
  | k + 1 => by have := ten_pos k; simp only [ten]; omega
theorem ten_add (a : Nat) : ∀ d, ten a ≤ ten (a + d)
  | 0 => Int.le_refl _
  | d + 1 => by have h1 := ten_add a d; have h2 := ten_pos (a + d); rw [← Nat.add_assoc]; simp only [ten]; omega
theorem ten_le {a b : Nat} (h : a ≤ b) : ten a ≤ ten b := by
  have := ten_add a (b - a)
  rwa [Nat.add_sub_cancel' h] at this
theorem ten_nine {a : Nat} (h : a ≤ 9) : ten a ≤ 1000000000 := ten_le h

end Go.Proofs.Ytdhnoclkepopgaa.Text
namespace Go.Proofs.Ytdhnoclkepopgaa
open Go.RowKit Go.Proofs.YtdhnoclkepopgaaW.PrintWords
theorem iter_pos {w : World} {k : Nat} {s : ByteArray} {p : Nat} (h : w.heap[k]? = some (.stringIter s p)) : w.iterPos k = p := by simp [World.iterPos, h]
theorem R_iterAt {α : Type} {d : Kd α} {e base : Nat} {ok : Nat → Prop} {w : World} {v : Value} {xs : List α} (h : d.R e w base ok v xs) {k : Nat} (hk : ∀ j, ok j → j ≠ k) (s : ByteArray) (p : Nat) : d.R e (w.iterAt k s p) base ok v xs :=
  Kd.R_step h (fun j hj _ => Lib.iterAt_other _ _ _ _ _ (hk j hj))
end Go.Proofs.Ytdhnoclkepopgaa
