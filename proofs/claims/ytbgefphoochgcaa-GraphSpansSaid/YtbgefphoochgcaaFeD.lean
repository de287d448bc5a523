/- FE, part 4: what a state stands for in memory; what a step of memory leaves. -/
import Derived.Test.YtbgefphoochgcaaFeC
import Derived.Below
import Derived.Laws.Sem
namespace Go.Proofs.Ytbgefphoochgcaa.FE
open Go
set_option linter.unusedVariables false
set_option linter.unusedSimpArgs false

theorem idB_iff {a b : Id} : idB a b = true ↔ a = b := by
  obtain ⟨a1, a2, a3⟩ := a; obtain ⟨b1, b2, b3⟩ := b
  simp [idB, Nat.beq_eq]
theorem locB_iff {a b : Loc} : locB a b = true ↔ a = b := by
  cases a <;> cases b <;> simp [locB, Nat.beq_eq, idB_iff]
theorem locB_self (a : Loc) : locB a a = true := locB_iff.2 rfl
theorem locB_ne {a b : Loc} (h : a ≠ b) : locB a b = false := by
  cases e : locB a b
  · rfl
  · exact absurd (locB_iff.1 e) h

section
variable {Ω : Type}
theorem inL_iff {l : Loc} : ∀ {ls : List Loc}, inL l ls = true ↔ l ∈ ls
  | [] => by simp [inL]
  | a :: r => by
    unfold inL
    by_cases h : a = l
    · subst h; simp [locB_self]
    · simp only [locB_ne h]
      rw [inL_iff, List.mem_cons]
      exact ⟨.inr, fun h' => h'.resolve_left (fun e => h e.symm)⟩
theorem get_append {ws st : S Ω} {l : Loc} : S.get (ws ++ st) l = if inL l (ws.map (·.1)) then S.get ws l else st.get l := by
  induction ws with
  | nil => simp [inL]
  | cons p r ih =>
    obtain ⟨a, v⟩ := p
    simp only [List.cons_append, S.get, List.map_cons, inL]
    by_cases h : a = l
    · subst h; simp [locB_self]
    · simp only [locB_ne h]; exact ih
theorem get_in {ws st : S Ω} {l : Loc} (h : inL l (ws.map (·.1)) = true) : S.get (ws ++ st) l = S.get ws l := by rw [get_append, if_pos h]
theorem get_out {ws st : S Ω} {l : Loc} (h : inL l (ws.map (·.1)) = false) : S.get (ws ++ st) l = st.get l := by rw [get_append, if_neg (by simp [h])]

inductive All2 {α β : Type} (R : α → β → Prop) : List α → List β → Prop where
  | nil : All2 R [] []
  | cons {a b as bs} (h : R a b) (t : All2 R as bs) : All2 R (a :: as) (b :: bs)
theorem All2.mono {α β : Type} {R Q : α → β → Prop} (h : ∀ a b, R a b → Q a b) {as : List α} {bs : List β} (t : All2 R as bs) : All2 Q as bs := by
  induction t with
  | nil => exact .nil
  | cons x _ ih => exact .cons (h _ _ x) ih
theorem All2.length {α β : Type} {R : α → β → Prop} {as : List α} {bs : List β} (t : All2 R as bs) : as.length = bs.length := by
  induction t with
  | nil => rfl
  | cons _ _ ih => simp [ih]
theorem All2.append {α β : Type} {R : α → β → Prop} {as as' : List α} {bs bs' : List β} (t : All2 R as bs) (u : All2 R as' bs') : All2 R (as ++ as') (bs ++ bs') := by
  induction t with
  | nil => exact u
  | cons x _ ih => exact .cons x ih
theorem All2.take {α β : Type} {R : α → β → Prop} {as : List α} {bs : List β} (t : All2 R as bs) (n : Nat) : All2 R (as.take n) (bs.take n) := by
  induction t generalizing n with
  | nil => simp; exact .nil
  | cons x _ ih => cases n with
    | zero => exact .nil
    | succ n => exact .cons x (ih n)
theorem All2.drop {α β : Type} {R : α → β → Prop} {as : List α} {bs : List β} (t : All2 R as bs) (n : Nat) : All2 R (as.drop n) (bs.drop n) := by
  induction t generalizing n with
  | nil => simp; exact .nil
  | cons x t ih => cases n with
    | zero => exact .cons x t
    | succ n => exact ih n
theorem All2.get {α β : Type} {R : α → β → Prop} {as : List α} {bs : List β} (t : All2 R as bs) {i : Nat} {a : α} (h : as[i]? = some a) : ∃ b, bs[i]? = some b ∧ R a b := by
  induction t generalizing i with
  | nil => simp at h
  | cons x t ih => cases i with
    | zero => simp at h; subst h; exact ⟨_, rfl, x⟩
    | succ i => simp at h; simpa using ih h

/-! ### data in memory -/
/-- Cells that stand in a row, from a place on. -/
def At (w : World) (b off : Nat) (l : List Value) : Prop :=
  ∃ c el fz, w.heap[b]? = some (.cells c el fz) ∧ ∀ i v, l[i]? = some v → c[off + i]? = some v
def Val (g : Bool) (p : List Value → Prop) (v : Value) : Prop := match g with | true => ∃ cs : Array Value, v = .agg cs ∧ p cs.toList | false => p [v]
def RepC (w : World) (O : Nat → Prop) : (t : Ty) → El t → List Value → Prop
  | .bool, x, vs => vs = [.bool x]
  | .int k, x, vs => vs = [.int k x]
  | .str, x, vs => vs = [.string x]
  | .unit, _, vs => vs = []
  | .pair a b, x, vs => ∃ l r, vs = l ++ r ∧ RepC w O a x.1 l ∧ RepC w O b x.2 r
  | .st r, x, vs => RepC w O r x vs
  | .sl e, xs, vs => ∃ a cap, vs = [.slice a xs.length cap] ∧ xs.length ≤ cap ∧
      (xs ≠ [] → ∃ b off, a = some ⟨b, off, none⟩ ∧ ¬ O b ∧ ∀ j (h : j < xs.length), ∃ l, RepC w O e xs[j] l ∧ At w b (off + j * width e) l)
  | .mp k v, m, vs => ∃ r, vs = [.map r] ∧ ((r = none ∧ m = []) ∨ ∃ b es clock, r = some b ∧ ¬ O b ∧ w.heap[b]? = some (.map es clock) ∧ es.size = m.length ∧
      ∀ j (h : j < m.length), ∃ en, es[j]? = some en ∧ Val (rowB k) (fun l => RepC w O k m[j].1 l) en.key ∧ Val (rowB v) (fun l => RepC w O v m[j].2 l) en.val)
  | .pt t, x, vs => (x = none ∧ vs = [.pointer none]) ∨ ∃ y b off l, x = some y ∧ vs = [.pointer (some ⟨b, off, none⟩)] ∧ ¬ O b ∧ RepC w O t y l ∧ At w b off l
def RepV (w : World) (O : Nat → Prop) (t : Ty) (x : El t) (v : Value) : Prop := Val (rowB t) (fun l => RepC w O t x l) v

theorem RepC_len {w : World} {O : Nat → Prop} : ∀ {t : Ty} {x : El t} {l : List Value}, RepC w O t x l → l.length = width t := by
  intro t
  induction t with
  | pair a b ha hb =>
    rintro x l ⟨l1, l2, rfl, h1, h2⟩
    simp [width, ha h1, hb h2]
  | st r h => intro x l hl; exact h hl
  | sl e _ => rintro x l ⟨a, cap, rfl, _⟩; rfl
  | mp k v _ _ => rintro x l ⟨r, rfl, _⟩; rfl
  | pt t _ => rintro x l (⟨_, rfl⟩ | ⟨y, b, off, l', _, rfl, _⟩) <;> rfl
  | _ => rintro x l rfl; rfl

theorem heap_lt {w : World} {b : Nat} {o : Obj} (h : w.heap[b]? = some o) : b < w.heap.size := by
  rcases Nat.lt_or_ge b w.heap.size with h' | h'
  · exact h'
  · rw [Array.getElem?_eq_none h'] at h; cases h
theorem At.lt {w : World} {b off : Nat} {l : List Value} (h : At w b off l) : b < w.heap.size := by
  obtain ⟨c, el, fz, h, _⟩ := h; exact heap_lt h
theorem At.same {w w' : World} {b off : Nat} {l : List Value} (h : At w b off l) (e : w'.heap[b]? = w.heap[b]?) : At w' b off l := by
  obtain ⟨c, el, fz, h, hc⟩ := h; exact ⟨c, el, fz, e.trans h, hc⟩
theorem Val.mono {g : Bool} {p q : List Value → Prop} {v : Value} (h : Val g p v) (hpq : ∀ l, p l → q l) : Val g q v := by
  cases g
  · exact hpq _ h
  · obtain ⟨cs, rfl, hc⟩ := h; exact ⟨cs, rfl, hpq _ hc⟩
/-- What isn't owned stays, and stays so. -/
def Free (w : World) (O : Nat → Prop) (w' : World) (O' : Nat → Prop) : Prop := ∀ b, b < w.heap.size → ¬ O b → w'.heap[b]? = w.heap[b]? ∧ ¬ O' b
theorem RepC.mono {w w' : World} {O O' : Nat → Prop} (hf : Free w O w' O') : ∀ {t : Ty} {x : El t} {l : List Value}, RepC w O t x l → RepC w' O' t x l := by
  intro t
  induction t with
  | pair a b ha hb => rintro x l ⟨l1, l2, rfl, h1, h2⟩; exact ⟨l1, l2, rfl, ha h1, hb h2⟩
  | st r h => intro x l hl; exact h hl
  | sl e ih =>
    rintro xs l ⟨a, cap, rfl, hle, h⟩
    refine ⟨a, cap, rfl, hle, fun hne => ?_⟩
    obtain ⟨b, off, rfl, hb, hx⟩ := h hne
    have hlt : b < w.heap.size := by
      obtain ⟨l, _, hat⟩ := hx 0 (by cases xs <;> simp_all)
      exact hat.lt
    obtain ⟨e1, e2⟩ := hf b hlt hb
    exact ⟨b, off, rfl, e2, fun j hj => let ⟨l, hr, hat⟩ := hx j hj; ⟨l, ih hr, hat.same e1⟩⟩
  | mp k v hk hv =>
    rintro m l ⟨r, rfl, h⟩
    refine ⟨r, rfl, ?_⟩
    rcases h with h | ⟨b, es, clock, rfl, hb, hh, hs, hx⟩
    · exact .inl h
    · obtain ⟨e1, e2⟩ := hf b (heap_lt hh) hb
      exact .inr ⟨b, es, clock, rfl, e2, e1.trans hh, hs, fun j hj => let ⟨en, he, h1, h2⟩ := hx j hj; ⟨en, he, h1.mono fun _ => hk, h2.mono fun _ => hv⟩⟩
  | pt t ih =>
    rintro x l (h | ⟨y, b, off, l', hx, rfl, hb, hr, hat⟩)
    · exact .inl h
    · obtain ⟨e1, e2⟩ := hf b hat.lt hb
      exact .inr ⟨y, b, off, l', hx, rfl, e2, ih hr, hat.same e1⟩
  | _ => rintro x l rfl; rfl
theorem RepV.mono {w w' : World} {O O' : Nat → Prop} (hf : Free w O w' O') {t : Ty} {x : El t} {v : Value} (h : RepV w O t x v) : RepV w' O' t x v := Val.mono h fun _ => RepC.mono hf
theorem Free.refl (w : World) (O : Nat → Prop) : Free w O w O := fun _ _ h => ⟨rfl, h⟩
/-- The cells of a type's zero value. -/
def zeroCells : Ty → List Value
  | .bool => [.bool false] | .int k => [.int k 0] | .str => [.string ByteArray.empty] | .unit => []
  | .pair a b => zeroCells a ++ zeroCells b | .st r => zeroCells r
  | .sl _ => [.slice none 0 0] | .mp _ _ => [.map none] | .pt _ => [.pointer none]
theorem RepC_zero {w : World} {O : Nat → Prop} : ∀ t : Ty, RepC w O t (zeroEl t) (zeroCells t) := by
  intro t
  induction t with
  | pair a b ha hb => exact ⟨_, _, rfl, ha, hb⟩
  | st r h => exact h
  | sl e _ => exact ⟨none, 0, rfl, Nat.le_refl _, fun h => absurd rfl h⟩
  | mp k v _ _ => exact ⟨none, rfl, .inl ⟨rfl, rfl⟩⟩
  | pt t _ => exact .inl ⟨rfl, rfl⟩
  | _ => rfl

/-! ### states in memory -/
inductive Own where
  | at_ (l : Loc) | bx (id : Id) | om | ext
structure Ghost where
  Γ : Id → Option (Value × List Nat)
  β : Id → Option (Nat × Nat)
  ρ : Nat → Option Own
def Ow (ρ : Nat → Option Own) (b : Nat) : Prop := ρ b ≠ none
abbrev Ghost.O (G : Ghost) : Nat → Prop := Ow G.ρ
/-- What stands for a closure that came in: its value; its state in memory (M: what it owns; O: what is owned). -/
structure CloRep (Ω : Type) where
  val : Value
  fn : ∃ f x y, val = .func f x y
  K : Ω → World → (Nat → Prop) → (Nat → Prop) → Prop
  stable : ∀ {s w w' M M' O O'}, K s w M O → w.heap.size ≤ w'.heap.size → (∀ b, M b → w'.heap[b]? = w.heap[b]?) → Free w O w' O' → (∀ b, M b → M' b) → K s w' M' O'
def ArrRep (ρ : Nat → Option Own) (w : World) (o : Own) (e : Ty) (xs : List (El e)) (v : Value) : Prop :=
  (xs = [] ∧ v = .slice none 0 0) ∨ ∃ b off cap c el, v = .slice (some ⟨b, off, none⟩) xs.length cap ∧ xs.length ≤ cap ∧ ρ b = some o ∧
    w.heap[b]? = some (.cells c el (0, 0)) ∧ off + cap * width e ≤ c.size ∧ ∀ j (h : j < xs.length), ∃ vs, RepC w (Ow ρ) e xs[j] vs ∧ ∀ i v, vs[i]? = some v → c[off + j * width e + i]? = some v
def MapRep (ρ : Nat → Option Own) (w : World) (o : Own) (k v : Ty) (m : List (El k × El v)) (u : Value) (bs : List Nat) : Prop :=
  ∃ b es clock, u = .map (some b) ∧ ρ b = some o ∧ w.heap[b]? = some (.map es clock) ∧ es.size = m.length ∧ es.toList.map (·.born) = bs ∧
    (∀ j (h : j < m.length), ∃ en, es[j]? = some en ∧ RepV w (Ow ρ) k m[j].1 en.key ∧ RepV w (Ow ρ) v m[j].2 en.val) ∧
    (∀ (i j : Nat) x y, es[i]? = some x → es[j]? = some y → x.born = y.born → i = j) ∧ ∀ (i : Nat) x, es[i]? = some x → x.born < clock
def RepL (C : CloRep Ω) (G : Ghost) (w : World) (at_ : Option Loc) : Leaf Ω → Value → Prop
  | .dat t x, v => RepC w G.O t x [v]
  | .nilS, v => v = .slice none 0 0
  | .nilM, v => v = .map none
  | .nilP, v => v = .pointer none
  | .arr id e xs, v => ∃ l, at_ = some l ∧ (∃ bs, G.Γ id = some (v, bs)) ∧ ArrRep G.ρ w (.at_ l) e xs v
  | .omp id k vt m, v => ∃ l bs, at_ = some l ∧ G.Γ id = some (v, bs) ∧ MapRep G.ρ w (.at_ l) k vt m v bs
  | .ref id off n, v => ∃ b, G.β id = some (b, n) ∧ v = .pointer (some ⟨b, off, none⟩)
  | .ali _ id, v => (∃ bs, G.Γ id = some (v, bs)) ∧ v.oneCell' = true
  | .avw _ id sz lo hi, v => ∃ a len cap bs, G.Γ id = some (.slice a len cap, bs) ∧ 0 ≤ lo ∧ lo ≤ hi ∧ hi ≤ (len : Int) ∧ len ≤ cap ∧
      v = .slice (if (cap : Int) = lo then a else a.map (·.add (lo.toNat * sz))) (hi - lo).toNat (cap - lo.toNat)
  | .eptr t x, v => ∃ b off l, v = .pointer (some ⟨b, off, none⟩) ∧ ¬ G.O b ∧ RepC w G.O t x l ∧ At w b off l
  | .aptr _ id sz n off, v => ∃ b o len cap bs, G.Γ id = some (.slice (some ⟨b, o, none⟩) len cap, bs) ∧ 0 ≤ n ∧ n < (len : Int) ∧ v = .pointer (some ⟨b, o + n.toNat * sz + off, none⟩)
  | .clo f caps, v => ∃ bs : List Nat, bs.length = caps.length ∧ (∀ (i : Nat) b c, bs[i]? = some b → caps[i]? = some c → G.β c.1 = some (b, c.2.2)) ∧
      v = .func (.func f) #[] ((bs.zip caps).map fun p => Value.pointer (some ⟨p.1, p.2.2.1, none⟩)).toArray
  | .fnv, v => v = C.val
  | .ent _ id0 id j, v => ∃ u bs n, G.Γ id = some (u, bs) ∧ (∃ bs0, G.Γ id0 = some (u, bs0)) ∧ bs[j]? = some n ∧ v = .int .i64 (n : Nat)
  | .opq _, _ => False
  | .dead, _ => True
def RepAV1 (C : CloRep Ω) (G : Ghost) (w : World) (at_ : Option Loc) : AV Ω → Value → Prop
  | .one l, v => RepL C G w at_ l v
  | .agg ls, v => ∃ vs : Array Value, v = .agg vs ∧ All2 (RepL C G w none) ls vs.toList
  | .tup _, _ => False
def RepAV (C : CloRep Ω) (G : Ghost) (w : World) (at_ : Option Loc) : AV Ω → Value → Prop
  | .tup ps, v => ∃ us : Array Value, v = .tuple us ∧ All2 (fun p u => RepAV1 C G w none (avOf p.1 p.2) u) ps us.toList
  | u, v => RepAV1 C G w at_ u v
def RepAt (C : CloRep Ω) (G : Ghost) (a : Act) (w : World) (l : Loc) (u : AV Ω) : Prop :=
  match l with
  | .tmp t => RepAV C G w (some l) u (a.tmps.getD t undef)
  | .comp _ _ => u = .one .dead ∨ ∃ v, RepAV1 C G w (some l) u v
  | .box id j => u = .one .dead ∨ ∃ b n v, G.β id = some (b, n) ∧ w.cell? ⟨b, j, none⟩ = some v ∧ RepAV1 C G w (some l) u v
  | .om => u = .one .dead ∨ ∃ s, u = .one (.opq s) ∧ C.K s w (fun b => G.ρ b = some .om) G.O
structure Rep (C : CloRep Ω) (G : Ghost) (N : Nat) (used : Id → Prop) (st : S Ω) (a : Act) (w : World) : Prop where
  at_ : ∀ l, RepAt C G a w l (st.get l)
  size : a.tmps.size = N
  defers : a.defers = []
  box : ∀ id b n, G.β id = some (b, n) → G.ρ b = some (.bx id) ∧ ∃ c el, w.heap[b]? = some (.cells c el (0, 0)) ∧ c.size = n
  usedΓ : ∀ id, G.Γ id ≠ none → used id
  usedβ : ∀ id, G.β id ≠ none → used id
  lt : ∀ b, G.O b → b < w.heap.size
/-- A step of memory: what isn't among L stays. -/
structure Step (G : Ghost) (w : World) (G' : Ghost) (w' : World) (L : Loc → Prop) : Prop where
  Γ : ∀ id v, G.Γ id = some v → G'.Γ id = some v
  β : ∀ id b, G.β id = some b → G'.β id = some b
  os : w'.os = w.os
  tape : w'.tape = w.tape
  output : w'.output = w.output
  size : w.heap.size ≤ w'.heap.size
  free : Free w G.O w' G'.O
  own : ∀ b l, G.ρ b = some (.at_ l) → ¬ L l → w'.heap[b]? = w.heap[b]? ∧ G'.ρ b = some (.at_ l)
  ext : ∀ b, G.ρ b = some .ext → w'.heap[b]? = w.heap[b]? ∧ G'.ρ b = some .ext
  om : ∀ b, G.ρ b = some .om → ¬ L .om → w'.heap[b]? = w.heap[b]? ∧ G'.ρ b = some .om
  bx : ∀ b n id, G.β id = some (b, n) → G'.ρ b = some (.bx id) ∧ (∃ c el, w'.heap[b]? = some (.cells c el (0, 0)) ∧ c.size = n) ∧ ∀ j, ¬ L (.box id j) → w'.cell? ⟨b, j, none⟩ = w.cell? ⟨b, j, none⟩
  lt : ∀ b, G'.O b → b < w'.heap.size
  omr : ∀ b, b < w.heap.size → G'.ρ b = some .om → ¬ L .om → G.ρ b = some .om
section
variable {C : CloRep Ω} {G G' : Ghost} {w w' : World} {L : Loc → Prop}
theorem Rep.box' {N : Nat} {used : Id → Prop} {st : S Ω} {a : Act} (h : Rep C G N used st a w) : ∀ b n id, G.β id = some (b, n) → G.ρ b = some (.bx id) ∧ ∃ c el, w.heap[b]? = some (.cells c el (0, 0)) ∧ c.size = n := fun b n id => h.box id b n
theorem ArrRep.step (hs : Step G w G' w' L) {l : Loc} (hl : ¬ L l) {e : Ty} {xs : List (El e)} {v : Value} (h : ArrRep G.ρ w (.at_ l) e xs v) : ArrRep G'.ρ w' (.at_ l) e xs v := by
  rcases h with h | ⟨b, off, cap, c, el, hv, hc, hb, hh, hsz, hx⟩
  · exact .inl h
  · obtain ⟨e1, e2⟩ := hs.own b l hb hl
    exact .inr ⟨b, off, cap, c, el, hv, hc, e2, e1.trans hh, hsz, fun j hj => let ⟨vs, hr, hat⟩ := hx j hj; ⟨vs, hr.mono hs.free, hat⟩⟩
theorem MapRep.step (hs : Step G w G' w' L) {l : Loc} (hl : ¬ L l) {k v : Ty} {m : List (El k × El v)} {u : Value} {bs : List Nat} (h : MapRep G.ρ w (.at_ l) k v m u bs) : MapRep G'.ρ w' (.at_ l) k v m u bs := by
  obtain ⟨b, es, clock, hu, hb, hh, hsz, hbs, hx, hr⟩ := h
  obtain ⟨e1, e2⟩ := hs.own b l hb hl
  exact ⟨b, es, clock, hu, e2, e1.trans hh, hsz, hbs, fun j hj => let ⟨en, he, h1, h2⟩ := hx j hj; ⟨en, he, h1.mono hs.free, h2.mono hs.free⟩, hr⟩
theorem RepL.step (hs : Step G w G' w' L) {at_ : Option Loc} (hl : ∀ l, at_ = some l → ¬ L l) {x : Leaf Ω} {v : Value} (h : RepL C G w at_ x v) : RepL C G' w' at_ x v := by
  cases x with
  | dat t x => exact RepC.mono hs.free h
  | arr id e xs => obtain ⟨l, e1, ⟨bs, e2⟩, h⟩ := h; exact ⟨l, e1, ⟨bs, hs.Γ _ _ e2⟩, h.step hs (hl l e1)⟩
  | omp id k vt m => obtain ⟨l, bs, e1, e2, h⟩ := h; exact ⟨l, bs, e1, hs.Γ _ _ e2, h.step hs (hl l e1)⟩
  | ref id off n => obtain ⟨b, e1, e2⟩ := h; exact ⟨b, hs.β _ _ e1, e2⟩
  | ali l id => obtain ⟨⟨bs, e⟩, h⟩ := h; exact ⟨⟨bs, hs.Γ _ _ e⟩, h⟩
  | avw l id sz lo hi => obtain ⟨a, len, cap, bs, e, r⟩ := h; exact ⟨a, len, cap, bs, hs.Γ _ _ e, r⟩
  | eptr t x =>
    obtain ⟨b, off, l, e, hb, hr, hat⟩ := h
    obtain ⟨e1, e2⟩ := hs.free b hat.lt hb
    exact ⟨b, off, l, e, e2, hr.mono hs.free, hat.same e1⟩
  | aptr l id sz n off => obtain ⟨b, o, len, cap, bs, e, r⟩ := h; exact ⟨b, o, len, cap, bs, hs.Γ _ _ e, r⟩
  | clo f caps => obtain ⟨bs, e1, e2, e3⟩ := h; exact ⟨bs, e1, fun i b c hb hc => hs.β _ _ (e2 i b c hb hc), e3⟩
  | ent l id0 id j => obtain ⟨u, bs, n, e, ⟨bs0, e0⟩, r⟩ := h; exact ⟨u, bs, n, hs.Γ _ _ e, ⟨bs0, hs.Γ _ _ e0⟩, r⟩
  | opq s => exact h.elim
  | _ => exact h
theorem RepAV1.step (hs : Step G w G' w' L) {at_ : Option Loc} (hl : ∀ l, at_ = some l → ¬ L l) {x : AV Ω} {v : Value} (h : RepAV1 C G w at_ x v) : RepAV1 C G' w' at_ x v := by
  cases x with
  | one l => exact RepL.step hs hl h
  | agg ls => obtain ⟨vs, e, h⟩ := h; exact ⟨vs, e, h.mono fun _ _ => RepL.step hs (fun _ e => by cases e)⟩
  | tup ps => exact h.elim
theorem RepAV.step (hs : Step G w G' w' L) {at_ : Option Loc} (hl : ∀ l, at_ = some l → ¬ L l) {x : AV Ω} {v : Value} (h : RepAV C G w at_ x v) : RepAV C G' w' at_ x v := by
  cases x with
  | tup ps => obtain ⟨us, e, h⟩ := h; exact ⟨us, e, h.mono fun _ _ => RepAV1.step hs (fun _ e => by cases e)⟩
  | one l => exact RepAV1.step (x := .one l) hs hl h
  | agg ls => exact RepAV1.step (x := .agg ls) hs hl h
theorem RepAt.step (hs : Step G w G' w' L) {a a' : Act} {l : Loc} (hl : ¬ L l) (ha : ∀ t, l = .tmp t → a'.tmps.getD t undef = a.tmps.getD t undef) {u : AV Ω} (h : RepAt C G a w l u) : RepAt C G' a' w' l u := by
  have hl' : ∀ l', some l = some l' → ¬ L l' := fun l' e => by cases e; exact hl
  cases l with
  | tmp t =>
    unfold RepAt at h ⊢
    simp only at h ⊢
    rw [ha t rfl]
    exact RepAV.step hs hl' h
  | comp t i =>
    rcases h with h | ⟨v, h⟩
    · exact .inl h
    · exact .inr ⟨v, RepAV1.step hs hl' h⟩
  | box id j =>
    rcases h with h | ⟨b, n, v, hb, hc, h⟩
    · exact .inl h
    · exact .inr ⟨b, n, v, hs.β _ _ hb, ((hs.bx b n id hb).2.2 j hl).trans hc, RepAV1.step hs hl' h⟩
  | om =>
    rcases h with h | ⟨s, e, h⟩
    · exact .inl h
    · exact .inr ⟨s, e, C.stable h hs.size (fun b hb => (hs.om b hb hl).1) hs.free (fun b hb => (hs.om b hb hl).2)⟩
/-- A step of memory, and writes: the state behind. -/
theorem Rep.step {N : Nat} {used used' : Id → Prop} {st ws : S Ω} {a a' : Act} (h : Rep C G N used st a w)
    (hs : Step G w G' w' (fun l => inL l (ws.map (·.1)) = true))
    (hw : ∀ l, inL l (ws.map (·.1)) = true → RepAt C G' a' w' l (S.get ws l))
    (ha : ∀ t, inL (.tmp t) (ws.map (·.1)) = false → a'.tmps.getD t undef = a.tmps.getD t undef)
    (hsz : a'.tmps.size = N) (hd : a'.defers = [])
    (hb : ∀ id b n, G'.β id = some (b, n) → G.β id = some (b, n) ∨ (G'.ρ b = some (.bx id) ∧ ∃ c el, w'.heap[b]? = some (.cells c el (0, 0)) ∧ c.size = n))
    (hΓ : ∀ id, G'.Γ id ≠ none → used' id) (hβ : ∀ id, G'.β id ≠ none → used' id) : Rep C G' N used' (ws ++ st) a' w' where
  at_ l := by
    cases hl : inL l (ws.map (·.1)) with
    | true => rw [get_in hl]; exact hw l hl
    | false =>
      rw [get_out hl]
      exact (h.at_ l).step hs (by simp [hl]) (fun t e => ha t (by rw [← e]; exact hl))
  size := hsz
  defers := hd
  box id b n hb' := by
    rcases hb id b n hb' with h' | h'
    · exact ⟨(hs.bx b n id h').1, (hs.bx b n id h').2.1⟩
    · exact h'
  usedΓ := hΓ
  usedβ := hβ
  lt := hs.lt
/-- Nothing changes but what a temporary stands for. -/
theorem Step.refl (h : ∀ b n id, G.β id = some (b, n) → G.ρ b = some (.bx id) ∧ ∃ c el, w.heap[b]? = some (.cells c el (0, 0)) ∧ c.size = n) (hlt : ∀ b, G.O b → b < w.heap.size) : Step G w G w L where
  Γ _ _ h := h
  β _ _ h := h
  os := rfl
  tape := rfl
  output := rfl
  size := Nat.le_refl _
  free := Free.refl _ _
  own _ _ h _ := ⟨rfl, h⟩
  ext _ h := ⟨rfl, h⟩
  om _ h _ := ⟨rfl, h⟩
  bx b n id hb := ⟨(h b n id hb).1, (h b n id hb).2, fun _ _ => rfl⟩
  lt := hlt
  omr _ _ h _ := h
/-- What is kept from a function's begin on. -/
structure Fr (ρ : Nat → Option Own) (w : World) (ρ' : Nat → Option Own) (w' : World) : Prop where
  os : w'.os = w.os
  tape : w'.tape = w.tape
  output : w'.output = w.output
  size : w.heap.size ≤ w'.heap.size
  free : Free w (Ow ρ) w' (Ow ρ')
  ext : ∀ b, ρ b = some .ext → w'.heap[b]? = w.heap[b]? ∧ ρ' b = some .ext
theorem Step.fr (h : Step G w G' w' L) : Fr G.ρ w G'.ρ w' := ⟨h.os, h.tape, h.output, h.size, h.free, h.ext⟩
theorem Fr.refl (ρ : Nat → Option Own) (w : World) : Fr ρ w ρ w := ⟨rfl, rfl, rfl, Nat.le_refl _, Free.refl _ _, fun _ h => ⟨rfl, h⟩⟩
theorem Fr.trans {ρ ρ' ρ'' : Nat → Option Own} {w w' w'' : World} (h : Fr ρ w ρ' w') (k : Fr ρ' w' ρ'' w'') : Fr ρ w ρ'' w'' where
  os := k.os.trans h.os
  tape := k.tape.trans h.tape
  output := k.output.trans h.output
  size := Nat.le_trans h.size k.size
  free b hb ho := by
    obtain ⟨e1, e2⟩ := h.free b hb ho
    obtain ⟨e3, e4⟩ := k.free b (Nat.lt_of_lt_of_le hb h.size) e2
    exact ⟨e3.trans e1, e4⟩
  ext b hb := by
    obtain ⟨e1, e2⟩ := h.ext b hb
    obtain ⟨e3, e4⟩ := k.ext b e2
    exact ⟨e3.trans e1, e4⟩
theorem getD_put {a : Act} {d : Nat} {v : Value} (h : d < a.tmps.size) : (a.put (some d) v).tmps.getD d undef = v := by
  simp [Act.put, h]
theorem getD_put_ne {a : Act} {d t : Nat} {v : Value} (h : d ≠ t) : (a.put (some d) v).tmps.getD t undef = a.tmps.getD t undef := by
  simp [Act.put, Array.getElem?_setIfInBounds_ne h]
theorem put_size {a : Act} {d : Option Nat} {v : Value} : (a.put d v).tmps.size = a.tmps.size := by cases d <;> simp [Act.put]
theorem put_defers {a : Act} {d : Option Nat} {v : Value} : (a.put d v).defers = a.defers := by cases d <;> rfl
/-- A value that owns nothing is put into a temporary. -/
theorem Rep.put {N : Nat} {used : Id → Prop} {st : S Ω} {a : Act} (h : Rep C G N used st a w) {d : Nat} (hd : d < N) {u : AV Ω} {v : Value} (hu : RepAV C G w (some (.tmp d)) u v) :
    Rep C G N used ((.tmp d, u) :: st) (a.put (some d) v) w := by
  have hd' : d < a.tmps.size := by rw [h.size]; exact hd
  refine Rep.step (ws := [(.tmp d, u)]) h (Step.refl h.box' h.lt) (fun l hl => ?_) (fun t ht => ?_) (put_size.trans h.size) (put_defers.trans h.defers) (fun id b n hb => .inl hb) h.usedΓ h.usedβ
  · have : l = .tmp d := by simpa [inL_iff] using hl
    subst this
    show RepAV C G w _ (S.get [(Loc.tmp d, u)] (.tmp d)) ((a.put (some d) v).tmps.getD d undef)
    rw [getD_put hd']
    simpa [S.get, locB_self] using hu
  · refine getD_put_ne fun e => ?_
    subst e
    simp [inL, locB_self] at ht
end
end
end Go.Proofs.Ytbgefphoochgcaa.FE
