/- FE, part 42: what comes in from outside: an argument that the row reads is data of a type. -/
import Derived.Test.YtbgefphoochgcaaFeOut
import Derived.DataReads
import Derived.Below
import Derived.WideShapes
namespace Go.Proofs.Ytbgefphoochgcaa.FE
open Go
set_option linter.unusedVariables false
set_option linter.unusedSimpArgs false
section
variable {P : Program}
/-! ### a Go type is that type -/
def fldsB (P : Program) (r : Nat → Ty → Bool) : List Field → Nat → Ty → Bool
  | [f], o, t => and (Nat.beq f.offset o) (and (Nat.beq (P.cellsOf f.type) (width t)) (r f.type t))
  | f :: g :: fs, o, .pair a b => and (Nat.beq f.offset o) (and (Nat.beq (P.cellsOf f.type) (width a)) (and (r f.type a) (fldsB P r (g :: fs) (o + width a) b)))
  | _, _, _ => false
def tyB (P : Program) : Nat → Nat → Ty → Bool
  | 0, _, _ => false
  | n + 1, t, ty => match ty, P.underlying t with
    | .bool, some .bool => true
    | .int k, some (.int k') => Nat.beq (IK k) (IK k')
    | .str, some .string => true
    | .sl E, some (.slice e) => and (Nat.beq (P.cellsOf e) (width E)) (and (Nat.blt 0 (width E)) (tyB P n e E))
    | .st r, some (.struct fs) => and (Nat.beq (P.cellsOf t) (width r)) (fldsB P (tyB P n) fs.toList 0 r)
    | _, _ => false
/-- What is known of data that comes in. -/
def Wf : (t : Ty) → El t → Prop
  | .int k, n => (Lit.int k n).wf = true
  | .str, s => (s : ByteArray).size ≤ maxLen
  | .pair a b, x => Wf a x.1 ∧ Wf b x.2
  | .st r, x => Wf r x
  | .sl e, xs => (xs : List (El e)).length ≤ maxLen ∧ ∀ x ∈ (xs : List (El e)), Wf e x
  | _, _ => True
theorem mapM_at {α β : Type} {f : α → Option β} : ∀ {l : List α} {r : List β}, l.mapM f = some r → r.length = l.length ∧ ∀ (i : Nat) x, l[i]? = some x → ∃ y, r[i]? = some y ∧ f x = some y
  | [], r, h => by
    simp at h; subst h
    exact ⟨rfl, fun i x h => by simp at h⟩
  | a :: l, r, h => by
    rw [List.mapM_cons] at h
    cases ha : f a with
    | none => rw [ha] at h; simp at h
    | some y =>
      cases hl : l.mapM f with
      | none => rw [ha, hl] at h; simp at h
      | some r' =>
        rw [ha, hl] at h
        simp at h; subst h
        obtain ⟨h1, h2⟩ := mapM_at hl
        refine ⟨by simp [h1], fun i x hx => ?_⟩
        cases i with
        | zero => simp at hx; subst hx; exact ⟨y, rfl, ha⟩
        | succ i => simpa using h2 i x (by simpa using hx)
/-- Row by row. -/
theorem pick_list {α : Type} {n : Nat} {p : Nat → α → Prop} (h : ∀ i, i < n → ∃ x, p i x) : ∃ xs : List α, xs.length = n ∧ ∀ i (hi : i < xs.length), p i xs[i] := by
  induction n with
  | zero => exact ⟨[], rfl, fun i hi => absurd hi (by simp)⟩
  | succ n ih =>
    obtain ⟨xs, h1, h2⟩ := ih (fun i hi => h i (by omega))
    obtain ⟨x, hx⟩ := h n (by omega)
    refine ⟨xs ++ [x], by simp [h1], fun i hi => ?_⟩
    rcases Nat.lt_or_ge i xs.length with hl | hl
    · rw [List.getElem_append_left hl]; exact h2 i hl
    · have : i = n := by simp at hi; omega
      subst this
      rw [List.getElem_append_right hl]
      simpa [h1] using hx
variable {H : Type} {enc : TypeId × Value → H} {w : World} {base : Nat} {spare : Nat → Bool} {held : Bool}
def Opens (P : Program) (enc : TypeId × Value → H) (w : World) (base : Nat) (spare : Nat → Bool) (held : Bool) (t : Nat) (ty : Ty) : Prop :=
  ∀ m cs y, DataW.trod enc P w base spare held m t cs = some y → ∃ x : El ty, RepC w (Ow fun _ => none) ty x cs ∧ Wf ty x
theorem flds_opens {m : Nat} {r : Nat → Ty → Bool} (hr : ∀ t ty, r t ty = true → Opens P enc w base spare held t ty) : ∀ (fs : List Field) (o : Nat) (ty : Ty) (cs : List Value), fldsB P r fs o ty = true →
    (∀ (i : Nat) (f : Field), fs[i]? = some f → ∃ y, DataW.trod enc P w base spare held m f.type ((cs.drop f.offset).take (P.cellsOf f.type)) = some y) → cs.length = o + width ty → ∃ x : El ty, RepC w (Ow fun _ => none) ty x (cs.drop o) ∧ Wf ty x
  | [], _, _, _, h, _, _ => by simp [fldsB] at h
  | [f], o, ty, cs, h, hy, hl => by
    simp only [fldsB, Bool.and_eq_true] at h
    obtain ⟨h1, h2, h3⟩ := h
    have h1 := Nat.eq_of_beq_eq_true h1
    have h2 := Nat.eq_of_beq_eq_true h2
    obtain ⟨y, h5⟩ := hy 0 f rfl
    rw [h1, h2] at h5
    obtain ⟨x, h6, h7⟩ := hr _ _ h3 _ _ _ h5
    rw [List.take_of_length_le (by simp; omega)] at h6
    exact ⟨x, h6, h7⟩
  | f :: g :: fs, o, ty, cs, h, hy, hl => by
    cases ty with
    | pair a b =>
      simp only [fldsB, Bool.and_eq_true] at h
      obtain ⟨h1, h2, h3, h8⟩ := h
      have h1 := Nat.eq_of_beq_eq_true h1
      have h2 := Nat.eq_of_beq_eq_true h2
      obtain ⟨y, h5⟩ := hy 0 f rfl
      rw [h1, h2] at h5
      obtain ⟨x, h6, h7⟩ := hr _ _ h3 _ _ _ h5
      have hw : cs.length = o + width a + width b := by rw [hl]; show _ + (width a + width b) = _; omega
      obtain ⟨x2, k1, k2⟩ := flds_opens (m := m) hr (g :: fs) (o + width a) b cs h8 (fun i f' hf => hy (i + 1) f' (by simpa using hf)) hw
      exact ⟨(x, x2), ⟨_, _, by rw [← List.drop_drop]; exact (List.take_append_drop (width a) (cs.drop o)).symm, h6, k1⟩, h7, k2⟩
    | _ => simp [fldsB] at h
theorem cells_At {a : Addr} {n : Nat} {l : List Value} (h : w.cells? base a n = some l) (hn : 0 < n) : a.spot = none ∧ l.length = n ∧ At w a.block a.off l := by
  unfold World.cells? at h
  split at h
  · obtain ⟨h1, h2⟩ := mapM_at h
    have hl : l.length = n := by simpa using h1
    obtain ⟨y0, -, h3⟩ := h2 0 0 (by simp [hn])
    have hs : a.spot = none := by simpa [Addr.add] using World.cell?_spot h3
    have hc : ∀ i v, l[i]? = some v → w.cell? ⟨a.block, a.off + i, none⟩ = some v := by
      intro i v hv
      have hi : i < n := by
        rcases Nat.lt_or_ge i l.length with h' | h'
        · omega
        · rw [List.getElem?_eq_none h'] at hv; cases hv
      obtain ⟨y, hy, hz⟩ := h2 i i (by simp [hi])
      rw [hv] at hy; cases hy
      have : a.add i = ⟨a.block, a.off + i, none⟩ := by
        unfold Addr.add
        split
        · rename_i e; subst e; cases a; simp_all
        · rfl
      rw [← this]; exact hz
    have hb : ∃ c el fz, w.heap[a.block]? = some (.cells c el fz) := by
      have := hc 0 y0 (by
        obtain ⟨y, hy, hz⟩ := h2 0 0 (by simp [hn])
        rw [h3] at hz; cases hz; exact hy)
      unfold World.cell? at this
      split at this
      · rename_i c el fz e; exact ⟨c, el, fz, e⟩
      · cases this
    obtain ⟨c, el, fz, hh⟩ := hb
    refine ⟨hs, hl, c, el, fz, hh, fun i v hv => ?_⟩
    simpa [World.cell?, hh] using hc i v hv
  · cases h
theorem opens : ∀ (n t : Nat) (ty : Ty), tyB P n t ty = true → Opens P enc w base spare held t ty := by
  intro n
  induction n with
  | zero => intro t ty h; cases h
  | succ n ih =>
    intro t ty h m cs y hy
    cases hu : P.underlying t with
    | none => cases ty <;> simp [tyB, hu] at h
    | some d =>
    cases ty with
    | bool =>
      cases d <;> simp [tyB, hu] at h
      obtain ⟨b, rfl, -⟩ := DataW.trod_bool hu hy
      exact ⟨b, rfl, trivial⟩
    | int k =>
      cases d <;> simp [tyB, hu] at h
      have hk := IK_inj h
      subst hk
      obtain ⟨b, rfl, -, hw⟩ := DataW.trod_int hu hy
      exact ⟨b, rfl, hw⟩
    | str =>
      cases d <;> simp [tyB, hu] at h
      obtain ⟨b, rfl, -, hw⟩ := DataW.trod_string hu hy
      exact ⟨b, rfl, hw⟩
    | sl E =>
      cases d <;> simp [tyB, hu] at h
      rename_i e
      obtain ⟨h1, h2, h3⟩ := h
      have h1 : P.cellsOf e = width E := h1
      rcases DataW.trod_slice hu hy with ⟨rfl, -⟩ | ⟨a, len, cap, elems, rest, q, rfl, rfl, -, hb, hlc, hcm, hel, hat, -, -⟩
      · exact ⟨([] : List (El E)), ⟨none, 0, rfl, Nat.le_refl _, fun h => absurd rfl h⟩, Nat.zero_le _, fun x hx => absurd hx (by simp)⟩
      · have hrow : ∀ i, i < len → ∃ p : El E, (∃ l, a.spot = none ∧ RepC w (Ow fun _ => none) E p l ∧ At w a.block (a.off + i * width E) l) ∧ Wf E p := by
          intro i hi
          have h := hat i hi
          rw [List.getElem?_eq_getElem (by omega : i < elems.length)] at h
          obtain ⟨l, h4, h5⟩ := Option.bind_eq_some_iff.1 h
          obtain ⟨p, h6, h7⟩ := ih e E h3 _ _ _ h5
          rw [h1] at h4
          have hadd : a.add (i * width E) = a ∨ a.add (i * width E) = ⟨a.block, a.off + i * width E, none⟩ := by
            unfold Addr.add
            split
            · exact .inl rfl
            · exact .inr rfl
          obtain ⟨k1, k2, k3⟩ := cells_At h4 h2
          rcases hadd with e1 | e1
          · rw [e1] at k1 k3
            refine ⟨p, ⟨l, k1, h6, ?_⟩, h7⟩
            have : i * width E = 0 := by
              unfold Addr.add at e1
              split at e1
              · assumption
              · have := congrArg Addr.off e1
                simp at this
                omega
            rw [this]; exact k3
          · obtain ⟨l0, h40, -⟩ := Option.bind_eq_some_iff.1 (by have h := hat 0 (by omega); rw [List.getElem?_eq_getElem (by omega : 0 < elems.length)] at h; exact h)
            rw [h1] at h40
            have k0 := (cells_At h40 h2).1
            rw [show a.add (0 * width E) = a by simp [Addr.add]] at k0
            rw [e1] at k3
            exact ⟨p, ⟨l, k0, h6, k3⟩, h7⟩
        obtain ⟨xs, hx1, hx2⟩ := pick_list hrow
        refine ⟨xs, ⟨some a, cap, by rw [hx1], by rw [hx1]; exact hlc, fun hne => ?_⟩, by rw [hx1]; exact Nat.le_trans hlc hcm, fun x hx => ?_⟩
        · have h0 : 0 < xs.length := List.length_pos_iff.2 hne
          obtain ⟨⟨l, k1, k2, k3⟩, -⟩ := hx2 0 h0
          refine ⟨a.block, a.off, by cases a; simp_all, fun h => h rfl, fun j hj => ?_⟩
          obtain ⟨⟨l, k1, k2, k3⟩, -⟩ := hx2 j hj
          exact ⟨l, k2, k3⟩
        · obtain ⟨i, hi, rfl⟩ := List.mem_iff_getElem.1 hx
          exact (hx2 i hi).2
    | st r =>
      cases d <;> simp [tyB, hu] at h
      rename_i fs
      obtain ⟨h1, h2⟩ := h
      have h1 : P.cellsOf t = width r := h1
      obtain ⟨xs, q, rfl, -, hl, hxs, hat⟩ := DataW.trod_struct hu hy
      have hat' : ∀ (i : Nat) (f : Field), fs.toList[i]? = some f → ∃ y, DataW.trod enc P w base spare held q f.type ((cs.drop f.offset).take (P.cellsOf f.type)) = some y := by
        intro i f hf
        have hf' : fs[i]? = some f := by simpa using hf
        have hi : i < fs.size := by
          rcases Nat.lt_or_ge i fs.size with h' | h'
          · exact h'
          · rw [Array.getElem?_eq_none h'] at hf'; cases hf'
        exact ⟨_, by rw [hat i f hf', List.getElem?_eq_getElem (by omega : i < xs.length)]⟩
      obtain ⟨x, k1, k2⟩ := flds_opens (enc := enc) (w := w) (base := base) (spare := spare) (held := held) (m := q) ih fs.toList 0 r cs h2 hat' (by rw [hl, h1]; simp)
      exact ⟨x, by rw [List.drop_zero] at k1; exact k1, k2⟩
    | _ => simp [tyB, hu] at h
/-- An argument that the row reads. -/
theorem arg_opens {n t : Nat} {ty : Ty} {base' : Nat} {v : Value} {d : DataW H} {ps : List MemPlace} (h : tyB P n t ty = true) (hv : Value.okWide P w .any base' t v) (hd : DataW.Trod enc P w base spare held t v d ps) :
    ∃ x : El ty, RepV w (Ow fun _ => none) ty x v ∧ Wf ty x := by
  obtain ⟨m, hm⟩ := hd
  obtain ⟨x, h1, h2⟩ := opens n t ty h m _ _ hm
  refine ⟨x, ?_, h2⟩
  cases n with
  | zero => cases h
  | succ n =>
  cases hu : P.underlying t with
  | none => cases ty <;> simp [tyB, hu] at h
  | some d =>
  unfold RepV Val
  cases ty with
  | st r =>
    cases d <;> simp [tyB, hu] at h
    simp only [Value.okWide, hu] at hv
    obtain ⟨cs, rfl, -⟩ := hv
    exact ⟨cs, rfl, h1⟩
  | pair a b => simp [tyB] at h
  | unit => simp [tyB] at h
  | mp a b => simp [tyB] at h
  | pt a => simp [tyB] at h
  | _ =>
    cases d <;> simp [tyB, hu] at h
    simp only [Value.okWide, hu, Cell.okWide] at hv
    cases v <;> first | exact h1 | (simp [Cell.ok, hu] at hv; done)
theorem pars_cons {ρ : Nat → Option Own} {p : Nat} {t : Ty} {x : El t} {v : Value} {ps : List PS} {ds : List DL} {vs : List Value} (h : RepV w (Ow ρ) t x v) (hr : ParsRep ρ w (p + 1) ps ds vs) : ParsRep ρ w p (.v (.dat t) :: ps) (⟨t, x⟩ :: ds) (v :: vs) :=
  ⟨[⟨t, x⟩], ds, v, vs, rfl, rfl, ⟨x, rfl, h⟩, hr⟩
theorem pars_nil {ρ : Nat → Option Own} {p : Nat} : ParsRep ρ w p [] [] [] := ⟨rfl, rfl⟩
theorem below_of {ρ' : Nat → Option Own} {w' : World} (h : Fr (fun _ => none) w ρ' w') : RowKit.Below w.heap.size w w' := ⟨h.os, h.tape, h.output, h.size, fun k hk => (h.free k hk (fun h => h rfl)).1⟩
/-- A law: it holds. -/
theorem law_calls {f : Nat} {sg : Sig} {F : Tup sg.ins → Option (El (outTy sg.outs))} {y : El (outTy sg.outs)} {x : Tup sg.ins} {args : Array Value} (hs : Sound P f ⟨sg, F⟩) (hres : sg.res = [.v (.dat .bool)]) (hy : F x = some y) (ho : unOut sg.outs y = [⟨.bool, true⟩])
    (hp : ParsRep (fun _ => none) w 0 sg.pars (unTup sg.ins x) args.toList) : Calls P f args w fun e w' => e = .returned (.bool true) ∧ RowKit.Below w.heap.size w w' := by
  refine (hs.calls (fun _ => none) w args x y hy (fun b h => absurd rfl h) hp).mono ?_
  rintro e w' ⟨v, ρ', rfl, fr, -, d1, d2, e1, h, -⟩
  have e1 : unOut sg.outs y = d1 ++ d2 := e1
  have h0 : ResAll ρ' w' sg.res d1 v := h
  clear h
  rw [hres] at h0
  obtain ⟨b, rfl, h1⟩ := h0
  rw [ho] at e1
  have e2 := (List.cons.inj e1).1
  cases e2
  have : [v] = [.bool true] := h1
  cases this
  exact ⟨rfl, below_of fr⟩
end
end Go.Proofs.Ytbgefphoochgcaa.FE
