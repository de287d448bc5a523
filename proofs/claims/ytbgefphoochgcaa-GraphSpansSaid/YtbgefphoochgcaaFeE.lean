/- FE, part 5: rows of leaves and data; the table of types against the program's own. -/
import Derived.Test.YtbgefphoochgcaaFeD
namespace Go.Proofs.Ytbgefphoochgcaa.FE
open Go
set_option linter.unusedVariables false
set_option linter.unusedSimpArgs false
section
variable {Ω : Type} {C : CloRep Ω} {G : Ghost} {w : World}

/-! ### rows -/
theorem unpack_rep : ∀ {t : Ty} {x : El t} {l : List Value}, RepC w G.O t x l → All2 (RepL C G w none) (unpack t x) l := by
  intro t
  induction t with
  | pair a b ha hb => rintro x l ⟨l1, l2, rfl, h1, h2⟩; exact (ha h1).append (hb h2)
  | st r h => intro x l hl; exact h hl
  | unit => rintro x l rfl; exact .nil
  | sl e _ => rintro x l h; obtain ⟨a, cap, rfl, r⟩ := h; exact .cons ⟨a, cap, rfl, r⟩ .nil
  | mp k v _ _ => rintro x l h; obtain ⟨r, rfl, h⟩ := h; exact .cons ⟨r, rfl, h⟩ .nil
  | pt t _ =>
    rintro x l h
    have hl := RepC_len h
    match l, hl with
    | [v], _ => exact .cons h .nil
  | _ => rintro x l rfl; exact .cons rfl .nil
theorem all2_nil {α β : Type} {R : α → β → Prop} {l : List β} (h : All2 R [] l) : l = [] := by cases h; rfl
theorem all2_cons {α β : Type} {R : α → β → Prop} {a : α} {as : List α} {l : List β} (h : All2 R (a :: as) l) : ∃ b bs, l = b :: bs ∧ R a b ∧ All2 R as bs := by
  cases h with
  | cons h t => exact ⟨_, _, rfl, h, t⟩
theorem cast_rep {O : Nat → Prop} {t t' : Ty} {x : El t} {y : El t'} (h : cast? t t' x = some y) {l : List Value} (hr : RepC w O t x l) : RepC w O t' y l := by
  unfold cast? at h
  split at h
  · rename_i hb
    cases Ty.eq_of_beq hb
    cases h
    exact hr
  · cases h
/-- A cast, told as an equation. -/
theorem cast_eq {t t' : Ty} {x : El t} {y : El t'} (h : cast? t t' x = some y) : ∃ e : t = t', y = e ▸ x := by
  unfold cast? at h
  split at h
  · rename_i hb
    have e := Ty.eq_of_beq hb
    subst e
    exact ⟨rfl, (Option.some.inj h).symm⟩
  · cases h
theorem pack_leaf {t : Ty} {a : Leaf Ω} {r : List (Leaf Ω)} {z : El t × List (Leaf Ω)}
    (hp : pack t (a :: r) = some z) (h1 : ∀ a b, t ≠ .pair a b) (h2 : ∀ r, t ≠ .st r) (h3 : t ≠ .unit) : z.2 = r ∧
      ((∃ t' x, a = .dat t' x ∧ cast? t' t x = some z.1) ∨ (∃ e, ∃ h : t = .sl e, a = .nilS ∧ (h ▸ z.1 : El (.sl e)) = ([] : List (El e))) ∨
       (∃ k v, ∃ h : t = .mp k v, a = .nilM ∧ (h ▸ z.1 : El (.mp k v)) = ([] : List (El k × El v))) ∨ (∃ e, ∃ h : t = .pt e, a = .nilP ∧ (h ▸ z.1 : El (.pt e)) = (none : Option (El e)))) := by
  cases t with
  | pair a b => exact absurd rfl (h1 a b)
  | st r => exact absurd rfl (h2 r)
  | unit => exact absurd rfl h3
  | sl e =>
    cases a with
    | dat t' x =>
      simp only [pack, Option.bind_eq_some_iff] at hp
      obtain ⟨y, hy, hz⟩ := hp; cases hz
      exact ⟨rfl, .inl ⟨t', x, rfl, hy⟩⟩
    | nilS => simp only [pack, Option.some.injEq] at hp; subst hp; exact ⟨rfl, .inr (.inl ⟨e, rfl, rfl, rfl⟩)⟩
    | _ => simp [pack] at hp
  | mp k v =>
    cases a with
    | dat t' x =>
      simp only [pack, Option.bind_eq_some_iff] at hp
      obtain ⟨y, hy, hz⟩ := hp; cases hz
      exact ⟨rfl, .inl ⟨t', x, rfl, hy⟩⟩
    | nilM => simp only [pack, Option.some.injEq] at hp; subst hp; exact ⟨rfl, .inr (.inr (.inl ⟨k, v, rfl, rfl, rfl⟩))⟩
    | _ => simp [pack] at hp
  | pt e =>
    cases a with
    | dat t' x =>
      simp only [pack, Option.bind_eq_some_iff] at hp
      obtain ⟨y, hy, hz⟩ := hp; cases hz
      exact ⟨rfl, .inl ⟨t', x, rfl, hy⟩⟩
    | nilP => simp only [pack, Option.some.injEq] at hp; subst hp; exact ⟨rfl, .inr (.inr (.inr ⟨e, rfl, rfl, rfl⟩))⟩
    | _ => simp [pack] at hp
  | _ =>
    cases a with
    | dat t' x =>
      simp only [pack, Option.bind_eq_some_iff] at hp
      obtain ⟨y, hy, hz⟩ := hp; cases hz
      exact ⟨rfl, .inl ⟨t', x, rfl, hy⟩⟩
    | _ => simp [pack] at hp
theorem pack_rep : ∀ {t : Ty} {ls : List (Leaf Ω)} {z : El t × List (Leaf Ω)} {l : List Value}, pack t ls = some z → All2 (RepL C G w none) ls l →
    ∃ l1 l2, l = l1 ++ l2 ∧ RepC w G.O t z.1 l1 ∧ All2 (RepL C G w none) z.2 l2 := by
  intro t
  have leaf : ∀ {t : Ty} {ls : List (Leaf Ω)} {z : El t × List (Leaf Ω)} {l : List Value}, (∀ a b, t ≠ .pair a b) → (∀ r, t ≠ .st r) → t ≠ .unit → pack t ls = some z → All2 (RepL C G w none) ls l →
      ∃ l1 l2, l = l1 ++ l2 ∧ RepC w G.O t z.1 l1 ∧ All2 (RepL C G w none) z.2 l2 := by
    intro t ls z l h1 h2 h3 hp ha
    cases ls with
    | nil => cases t <;> simp [pack] at hp <;> first | exact absurd rfl (h1 _ _) | exact absurd rfl (h2 _) | exact absurd rfl h3
    | cons a r =>
      obtain ⟨b, bs, rfl, hb, hr⟩ := all2_cons ha
      obtain ⟨e2, h⟩ := pack_leaf hp h1 h2 h3
      refine ⟨[b], bs, rfl, ?_, e2 ▸ hr⟩
      rcases h with ⟨t', x, rfl, hc⟩ | ⟨e, rfl, rfl, hz⟩ | ⟨k, v, rfl, rfl, hz⟩ | ⟨e, rfl, rfl, hz⟩
      · exact cast_rep hc hb
      · obtain rfl : b = .slice none 0 0 := hb
        show RepC w G.O (.sl e) z.1 _
        rw [show z.1 = ([] : List (El e)) from hz]
        exact ⟨none, 0, rfl, Nat.le_refl _, fun h => absurd rfl h⟩
      · obtain rfl : b = .map none := hb
        show RepC w G.O (.mp k v) z.1 _
        rw [show z.1 = ([] : List (El k × El v)) from hz]
        exact ⟨none, rfl, .inl ⟨rfl, rfl⟩⟩
      · obtain rfl : b = .pointer none := hb
        show RepC w G.O (.pt e) z.1 _
        rw [show z.1 = (none : Option (El e)) from hz]
        exact .inl ⟨rfl, rfl⟩
  induction t with
  | pair a b ha hb =>
    intro ls z l hp h
    simp only [pack, Option.bind_eq_some_iff] at hp
    obtain ⟨x, hx, y, hy, hz⟩ := hp
    cases hz
    obtain ⟨l1, l2, rfl, r1, r2⟩ := ha hx h
    obtain ⟨l3, l4, rfl, r3, r4⟩ := hb hy r2
    exact ⟨l1 ++ l3, l4, by simp, ⟨l1, l3, rfl, r1, r3⟩, r4⟩
  | st r ih => intro ls z l hp h; exact ih hp h
  | unit =>
    intro ls z l hp h
    simp only [pack, Option.some.injEq] at hp
    subst hp
    exact ⟨[], l, rfl, rfl, h⟩
  | _ => intro ls z l hp h; exact leaf (fun _ _ e => by cases e) (fun _ e => by cases e) (fun e => by cases e) hp h
theorem packAll_rep {t : Ty} {ls : List (Leaf Ω)} {x : El t} {l : List Value} (hp : packAll t ls = some x) (h : All2 (RepL C G w none) ls l) : RepC w G.O t x l := by
  unfold packAll at hp
  simp only [Option.bind_eq_some_iff] at hp
  obtain ⟨z, hz, hx⟩ := hp
  obtain ⟨l1, l2, rfl, r1, r2⟩ := pack_rep hz h
  split at hx
  · rename_i e
    rw [e] at r2
    cases hx
    rw [all2_nil r2, List.append_nil]
    exact r1
  · cases hx
theorem zeroLeaf_rep : ∀ t : Ty, All2 (RepL C G w none) (zeroLeaf t) (zeroCells t) := by
  intro t
  induction t with
  | pair a b ha hb => exact ha.append hb
  | st r h => exact h
  | unit => exact .nil
  | _ => exact .cons rfl .nil
theorem zeroCells_len : ∀ t : Ty, (zeroCells t).length = width t := by
  intro t
  induction t with
  | pair a b ha hb => simp [zeroCells, width, ha, hb]
  | st r h => exact h
  | _ => rfl

/-! ### the table -/
def vB : Value → Value → Bool
  | .bool a, .bool b => a == b
  | .int k n, .int k' n' => and (Nat.beq (IK k) (IK k')) (decide (n = n'))
  | .string a, .string b => and (Nat.beq a.size 0) (Nat.beq b.size 0)
  | .slice none 0 0, .slice none 0 0 => true
  | .map none, .map none => true
  | .pointer none, .pointer none => true
  | _, _ => false
theorem IK_inj {k k' : IntKind} (h : IK k = IK k') : k = k' := by cases k <;> cases k' <;> first | rfl | cases h
theorem empty_of_size {a : ByteArray} (h : a.size = 0) : a = ByteArray.empty := by
  cases a with
  | mk d => have : d = #[] := Array.eq_empty_of_size_eq_zero h
            subst this; rfl
theorem vB_eq {a b : Value} (h : vB a b = true) : a = b := by
  unfold vB at h
  split at h <;> simp_all
  exact IK_inj h.1
def vsB : List Value → List Value → Bool
  | [], [] => true
  | a :: r, b :: s => and (vB a b) (vsB r s)
  | _, _ => false
theorem vsB_eq : ∀ {a b : List Value}, vsB a b = true → a = b
  | [], [], _ => rfl
  | a :: r, b :: s, h => by
    simp only [vsB, Bool.and_eq_true] at h
    rw [vB_eq h.1, vsB_eq h.2]
  | [], _ :: _, h => by cases h
  | _ :: _, [], h => by cases h
def aggB : Value → Bool | .agg _ => true | _ => false
def fieldsB (P : Program) : List Field → List (Nat × Nat) → Bool
  | [], [] => true
  | f :: r, p :: s => and (Nat.beq f.offset p.1) (and (Nat.beq f.type p.2) (and (Nat.blt 0 (P.cellsOf f.type)) (fieldsB P r s)))
  | _, _ => false
/-- A type's zero and its cells. -/
def zeroB (P : Program) (t : Nat) (ty : Ty) : Bool :=
  match P.info? t with
  | some i => and (Nat.beq i.size (width ty)) (and (Nat.ble i.bytes 2048) (match i.zero with | some z => and (vsB z.cells.toList (zeroCells ty)) (aggB z == rowB ty) | none => false))
  | none => false
/-- What keys may be. -/
def keyB (P : Program) (t : Nat) (K : Ty) : Bool :=
  match K, P.underlying t with
  | .int k, some (.int k') => Nat.beq (IK k) (IK k')
  | .str, some .string => true
  | _, _ => false
def kindB (P : Program) (t : Nat) (k : TK) (ty : Ty) : Bool :=
  match k, P.underlying t with
  | .int k, some (.int k') => and (Nat.beq (IK k) (IK k')) (ty.beq (.int k))
  | .bool, some .bool => ty.beq .bool
  | .str, some .string => ty.beq .str
  | .sl e, some (.slice e') => and (Nat.beq e e') (match ty with | .sl E => zeroB P e E | .unit => true | _ => false)
  | .st fs, some (.struct fs') => fieldsB P fs'.toList fs
  | .ptr e, some (.pointer e') => Nat.beq e e'
  | .mp k v, some (.map k' v') => and (Nat.beq k k') (and (Nat.beq v v') (match ty with | .mp K V => and (keyB P k K) (zeroB P v V) | .unit => true | _ => false))
  | .other, some (.struct _) => false
  | .other, some (.array _ _) => false
  | .other, some _ => true
  | _, _ => false
def tiB (P : Program) (t : Nat) (ti : TI) : Bool :=
  and (match P.info? t with | some i => Nat.beq i.size ti.size | none => false)
    (and (kindB P t ti.kind ti.ty) (match ti.ty with | .unit => true | ty => and (zeroB P t ty) (rowB ty == isSt ti.kind)))
def tabB (P : Program) : Nat → Tab → Bool
  | _, [] => true
  | t, none :: r => tabB P (t + 1) r
  | t, some ti :: r => and (tiB P t ti) (tabB P (t + 1) r)
theorem tabB_get {P : Program} : ∀ {T : Tab} {n t : Nat} {ti : TI}, tabB P n T = true → T.get t = some ti → tiB P (n + t) ti = true
  | [], _, _, _, _, h => by cases h
  | none :: r, n, 0, ti, _, h => by cases h
  | some x :: r, n, 0, ti, hb, h => by
    simp only [tabB, Bool.and_eq_true] at hb
    cases h
    exact hb.1
  | none :: r, n, t + 1, ti, hb, h => by
    have := tabB_get (T := r) (n := n + 1) (t := t) hb h
    rw [show n + (t + 1) = n + 1 + t by omega]; exact this
  | some x :: r, n, t + 1, ti, hb, h => by
    simp only [tabB, Bool.and_eq_true] at hb
    have := tabB_get (T := r) (n := n + 1) (t := t) hb.2 h
    rw [show n + (t + 1) = n + 1 + t by omega]; exact this
/-- What is told of a program: its table of types. -/
structure TabOk (P : Program) (T : Tab) : Prop where
  ok : ∀ t ti, T.get t = some ti → tiB P t ti = true
theorem TabOk.of {P : Program} {T : Tab} (h : tabB P 0 T = true) : TabOk P T := ⟨fun t ti hg => by have := tabB_get h hg; rwa [Nat.zero_add] at this⟩
section
variable {P : Program} {T : Tab} {t : Nat} {ti : TI}
theorem TabOk.info (h : TabOk P T) (hg : T.get t = some ti) : ∃ i, P.info? t = some i ∧ i.size = ti.size := by
  have := h.ok t ti hg
  simp only [tiB, Bool.and_eq_true] at this
  obtain ⟨h1, _⟩ := this
  split at h1
  · rename_i i hi; exact ⟨i, hi, Nat.eq_of_beq_eq_true h1⟩
  · cases h1
theorem TabOk.kind (h : TabOk P T) (hg : T.get t = some ti) : kindB P t ti.kind ti.ty = true := by
  have := h.ok t ti hg
  simp only [tiB, Bool.and_eq_true] at this
  exact this.2.1
theorem zeroB_spec {ty : Ty} (h : zeroB P t ty = true) : ∃ i z, P.info? t = some i ∧ i.size = width ty ∧ i.bytes ≤ 2048 ∧ i.zero = some z ∧ z.cells.toList = zeroCells ty ∧ aggB z = rowB ty := by
  unfold zeroB at h
  split at h
  · rename_i i hi
    simp only [Bool.and_eq_true] at h
    obtain ⟨h1, h2, h3⟩ := h
    split at h3
    · rename_i z hz
      simp only [Bool.and_eq_true, beq_iff_eq] at h3
      exact ⟨i, z, hi, Nat.eq_of_beq_eq_true h1, Nat.le_of_ble_eq_true h2, hz, vsB_eq h3.1, h3.2⟩
    · cases h3
  · cases h
theorem TabOk.zero (h : TabOk P T) (hg : T.get t = some ti) (hu : ti.ty ≠ .unit) : zeroB P t ti.ty = true ∧ rowB ti.ty = isSt ti.kind := by
  have := h.ok t ti hg
  simp only [tiB, Bool.and_eq_true] at this
  obtain ⟨_, _, h3⟩ := this
  first
    | exact ⟨h3.1, by simpa using h3.2⟩
    | (split at h3
       · rename_i e; exact absurd e hu
       · simpa using h3)
theorem TabOk.sl (h : TabOk P T) (hg : T.get t = some ti) {e : Nat} (hk : ti.kind = .sl e) : P.underlying t = some (.slice e) ∧ ∀ E, ti.ty = .sl E → zeroB P e E = true := by
  have := h.kind hg
  rw [hk] at this
  cases hu : P.underlying t with
  | none => simp [kindB, hu] at this
  | some d =>
    cases d <;> simp [kindB, hu] at this
    obtain ⟨e1, h2⟩ := this
    subst e1
    exact ⟨rfl, fun E hE => by rw [hE] at h2; exact h2⟩
theorem TabOk.mp (h : TabOk P T) (hg : T.get t = some ti) {k v : Nat} (hk : ti.kind = .mp k v) : P.underlying t = some (.map k v) ∧ ∀ K V, ti.ty = .mp K V → keyB P k K = true ∧ zeroB P v V = true := by
  have := h.kind hg
  rw [hk] at this
  cases hu : P.underlying t with
  | none => simp [kindB, hu] at this
  | some d =>
    cases d <;> simp [kindB, hu] at this
    obtain ⟨e1, e2, h2⟩ := this
    subst e1 e2
    exact ⟨rfl, fun K V hE => by rw [hE] at h2; simpa using h2⟩
theorem TabOk.int (h : TabOk P T) (hg : T.get t = some ti) {k : IntKind} (hk : ti.kind = .int k) : P.underlying t = some (.int k) := by
  have := h.kind hg
  rw [hk] at this
  cases hu : P.underlying t with
  | none => simp [kindB, hu] at this
  | some d =>
    cases d <;> simp [kindB, hu] at this
    rw [IK_inj this.1]
theorem TabOk.ptr (h : TabOk P T) (hg : T.get t = some ti) {e : Nat} (hk : ti.kind = .ptr e) : P.underlying t = some (.pointer e) := by
  have := h.kind hg
  rw [hk] at this
  cases hu : P.underlying t with
  | none => simp [kindB, hu] at this
  | some d =>
    cases d <;> simp [kindB, hu] at this
    rw [this]
theorem TabOk.bool (h : TabOk P T) (hg : T.get t = some ti) (hk : ti.kind = .bool) : P.underlying t = some .bool := by
  have := h.kind hg
  rw [hk] at this
  cases hu : P.underlying t with
  | none => simp [kindB, hu] at this
  | some d => cases d <;> simp [kindB, hu] at this; rfl
theorem TabOk.str (h : TabOk P T) (hg : T.get t = some ti) (hk : ti.kind = .str) : P.underlying t = some .string := by
  have := h.kind hg
  rw [hk] at this
  cases hu : P.underlying t with
  | none => simp [kindB, hu] at this
  | some d => cases d <;> simp [kindB, hu] at this; rfl
theorem fieldsB_get : ∀ {fs : List Field} {gs : List (Nat × Nat)} {j : Nat} {p : Nat × Nat}, fieldsB P fs gs = true → gs[j]? = some p →
    ∃ f, fs[j]? = some f ∧ f.offset = p.1 ∧ f.type = p.2 ∧ 0 < P.cellsOf f.type
  | [], [], _, _, _, h => by simp at h
  | f :: r, q :: s, 0, p, h, hg => by
    simp only [fieldsB, Bool.and_eq_true] at h
    obtain rfl : q = p := by simpa using hg
    exact ⟨f, rfl, Nat.eq_of_beq_eq_true h.1, Nat.eq_of_beq_eq_true h.2.1, Nat.blt_eq.mp h.2.2.1⟩
  | f :: r, q :: s, j + 1, p, h, hg => by
    simp only [fieldsB, Bool.and_eq_true] at h
    obtain ⟨g, h1, h2⟩ := fieldsB_get (j := j) (p := p) h.2.2.2 (by simpa using hg)
    exact ⟨g, by simpa using h1, h2⟩
  | [], _ :: _, _, _, h, _ => by cases h
  | _ :: _, [], _, _, h, _ => by cases h
theorem TabOk.st (h : TabOk P T) (hg : T.get t = some ti) {fs : List (Nat × Nat)} (hk : ti.kind = .st fs) : ∃ gs : Array Field, P.underlying t = some (.struct gs) ∧ fieldsB P gs.toList fs = true := by
  have := h.kind hg
  rw [hk] at this
  cases hu : P.underlying t with
  | none => simp [kindB, hu] at this
  | some d =>
    cases d <;> simp [kindB, hu] at this
    exact ⟨_, rfl, this⟩
/-- Is it a struct or an array? -/
theorem TabOk.agg (h : TabOk P T) (hg : T.get t = some ti) : ∃ d, P.underlying t = some d ∧ (match d with | .struct _ | .array _ _ => true | _ => false) = isSt ti.kind := by
  have := h.kind hg
  cases hk : ti.kind <;> rw [hk] at this <;> cases hu : P.underlying t with
  | none => simp [kindB, hu] at this
  | some d => refine ⟨d, rfl, ?_⟩; cases d <;> simp [kindB, hu, isSt] at this ⊢
end
end
end Go.Proofs.Ytbgefphoochgcaa.FE
