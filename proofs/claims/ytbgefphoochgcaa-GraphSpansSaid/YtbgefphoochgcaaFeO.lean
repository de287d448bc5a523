/- FE, part 15: stores. -/
import Derived.Test.YtbgefphoochgcaaFeN
namespace Go.Proofs.Ytbgefphoochgcaa.FE
open Go
set_option linter.unusedVariables false
set_option linter.unusedSimpArgs false
section
variable {Ω : Type} {C : CloRep Ω} {P : Program} {T : Tab} {N : Nat}
variable {rc i : Nat} {dst : Option Nat} {ty : Nat} {pos : String} {after : Array Edge} {guard : Option (Nat × Bool)}
variable {G : Ghost} {used used' : Id → Prop} {st ws : S Ω} {a : Act} {w w' : World} {acc rs : List Loc} {o : Oper} {K : Act → World → Prop} {Q : Exit → Act → World → Prop}

def spl (cur : Array Value) (k : Nat) (vs : List Value) : Array Value := (cur.toList.take k ++ vs ++ cur.toList.drop (k + vs.length)).toArray
theorem spl_size {cur : Array Value} {k : Nat} {vs : List Value} (h : k + vs.length ≤ cur.size) : (spl cur k vs).size = cur.size := by
  simp [spl]; omega
theorem spl_get {cur : Array Value} {k : Nat} {vs : List Value} (h : k + vs.length ≤ cur.size) (j : Nat) : (spl cur k vs)[j]? = if k ≤ j ∧ j < k + vs.length then vs[j - k]? else cur[j]? := by
  unfold spl
  simp only [List.getElem?_toArray]
  have hl : (cur.toList.take k).length = k := by simp; omega
  rw [List.append_assoc, List.getElem?_append, hl]
  by_cases h1 : j < k
  · rw [if_pos h1, if_neg (by omega), List.getElem?_take, if_pos h1]; simp
  · rw [if_neg h1, List.getElem?_append]
    by_cases h2 : j - k < vs.length
    · rw [if_pos h2, if_pos (by omega)]
    · rw [if_neg h2, if_neg (by omega), List.getElem?_drop, show k + vs.length + (j - k - vs.length) = j by omega]
      simp
theorem spl_nil {cur : Array Value} {k : Nat} : spl cur k [] = cur := by
  apply Array.ext_getElem?
  intro j
  by_cases h : k ≤ cur.size
  · rw [spl_get (by simpa using h), if_neg (by simp only [List.length_nil]; omega)]
  · simp only [spl, List.getElem?_toArray, List.append_nil, List.length_nil, Nat.add_zero]
    rw [List.take_append_drop]; simp
theorem setRow_same {b : Nat} {c : Array Value} {el : Nat} {fz : Nat × Nat} (h : w.heap[b]? = some (.cells c el fz)) : w.setRow b c = w := by
  have hlt : b < w.heap.size := (Array.getElem?_eq_some_iff.1 h).1
  have hv : w.heap[b] = .cells c el fz := (Array.getElem?_eq_some_iff.1 h).2
  unfold World.setRow
  cases w with
  | mk heap tape drawn os output =>
    congr 1
    apply Array.ext
    · simp
    · intro k h1 h2
      simp only [Array.getElem_modify]
      split
      · rename_i hk; subst hk; simp at hv; simp [hv]
      · rfl
theorem run_storeCells {b off el : Nat} : ∀ (vs : List Value) (i : Nat) (cur : Array Value) (w : World), w.heap[b]? = some (.cells cur el (0, 0)) → off + i + vs.length ≤ cur.size → (∀ v ∈ vs, v.oneCell' = true) →
    (storeCells ⟨b, off, none⟩ vs i).run P w = .ok () (w.setRow b (spl cur (off + i) vs))
  | [], i, cur, w, hg, hl, _ => by
    rw [spl_nil, setRow_same hg]; rfl
  | v :: rest, i, cur, w, hg, hl, h1 => by
    have hi : off + i < cur.size := by simp at hl; omega
    have hcell : w.cell? ⟨b, off + i, none⟩ = some cur[off + i] := by simp [World.cell?, hg, hi]
    have hfro : w.frozen? ⟨b, off + i, none⟩ = false := by simp [World.frozen?, hg]
    have hst : (store ((⟨b, off, none⟩ : Addr).add i) v).run P w = .ok () (w.setRow b (cur.setIfInBounds (off + i) v)) := by
      rw [add_none, run_store P w _ v _ (h1 v (by simp)), hcell]
      simp [hfro, setCell_eq_setRow w b (off + i) cur el (0, 0) v hg]
    have ih := run_storeCells (off := off) rest (i + 1) (cur.setIfInBounds (off + i) v) (w.setRow b (cur.setIfInBounds (off + i) v)) (setRow_heap w b cur _ el _ hg) (by simp at hl ⊢; omega) (fun x hx => h1 x (by simp [hx]))
    simp only [storeCells, Sem.run_bind, hst, Result.andThen_ok, ih, setRow_setRow]
    congr 2
    apply Array.ext_getElem?
    intro j
    have hl' : off + (i + 1) + rest.length ≤ (cur.setIfInBounds (off + i) v).size := by simp at hl ⊢; omega
    rw [spl_get (by simpa using hl'), spl_get hl]
    simp only [List.length_cons]
    by_cases hj : j = off + i
    · subst hj
      rw [if_neg (by omega), if_pos (by omega)]
      simp [hi]
    · by_cases h2 : off + (i + 1) ≤ j ∧ j < off + (i + 1) + rest.length
      · rw [if_pos h2, if_pos (by omega), show j - (off + i) = (j - (off + (i + 1))) + 1 by omega]
        simp
      · rw [if_neg h2, if_neg (by omega), Array.getElem?_setIfInBounds_ne (by omega)]
theorem run_storeVar (hT : TabOk P T) {t : Nat} {ti : TI} (hti : T.get t = some ti) {b off el : Nat} {cur : Array Value} (hg : w.heap[b]? = some (.cells cur el (0, 0))) {v : Value} (hsz : v.cells.size = ti.size) (hin : off + ti.size ≤ cur.size) (h1 : ∀ x ∈ v.cells.toList, x.oneCell' = true) :
    (storeVar t ⟨b, off, none⟩ v).run P w = .ok () (w.setRow b (spl cur off v.cells.toList)) := by
  obtain ⟨j, hj, hs⟩ := hT.info hti
  have h2 := run_storeCells (P := P) (off := off) v.cells.toList 0 cur w hg (by simp [hsz]; omega) h1
  simp [storeVar, sizeOf, typeInfo, hj, hs, hsz, h2]
theorem run_store_op {t : Nat} {x y : Operand} {b off : Nat} (e : a.eval x = .pointer (some ⟨b, off, none⟩)) (h : (storeVar t ⟨b, off, none⟩ (a.eval y)).run P w = .ok () w') :
    (execOp a.eval ⟨dst, .store t x y, ty, pos, after, guard⟩).run P w = .ok .skip w' := by
  simp [execOp, e, Instr.storeAt, Instr.sureAddr, h]
/-- One row changes; it is owned. -/
theorem setRow_step (hr : Rep C G N used st a w) {b : Nat} {ow : Own} (hρ : G.ρ b = some ow) {c cs : Array Value} {el : Nat} (hh : w.heap[b]? = some (.cells c el (0, 0))) (hsz : cs.size = c.size) {L : Loc → Prop}
    (h1 : ∀ l, ow = .at_ l → L l) (h2 : ∀ id, ow = .bx id → ∀ j, ¬ L (.box id j) → cs[j]? = c[j]?) (h3 : ow ≠ .ext) (h4 : ow ≠ .om) : Step G w G (w.setRow b cs) L where
  Γ _ _ h := h
  β _ _ h := h
  os := rfl
  tape := rfl
  output := rfl
  size := by simp
  free b' hb' ho := by
    refine ⟨setRow_other w b b' cs ?_, ho⟩
    intro e; subst e
    exact ho (show G.ρ b' ≠ none by rw [hρ]; simp)
  own b' l h hn := by
    refine ⟨setRow_other w b b' cs ?_, h⟩
    intro e; subst e
    rw [hρ] at h
    exact hn (h1 l (Option.some.inj h))
  ext b' h := by
    refine ⟨setRow_other w b b' cs ?_, h⟩
    intro e; subst e
    rw [hρ] at h
    exact h3 (Option.some.inj h)
  om b' h hn := by
    refine ⟨setRow_other w b b' cs ?_, h⟩
    intro e; subst e
    rw [hρ] at h
    exact h4 (Option.some.inj h)
  bx b' n id h := by
    obtain ⟨g1, c', el', g2, g3⟩ := hr.box id b' n h
    by_cases e : b' = b
    · subst e
      rw [hh] at g2
      cases g2
      rw [hρ] at g1
      have e1 := Option.some.inj g1
      refine ⟨by rw [hρ, e1], ⟨cs, _, setRow_heap w b' _ _ _ _ hh, by rw [hsz, g3]⟩, fun j hn => ?_⟩
      rw [cell_setRow_same w b' j _ _ _ _ hh]
      simp [World.cell?, hh, h2 id e1 j hn]
    · exact ⟨g1, ⟨c', el', (setRow_other w b b' cs e).trans g2, g3⟩, fun j _ => cell_setRow_other w b cs _ e⟩
  lt b' h := by simpa using hr.lt b' h
  omr _ _ h _ := h
theorem Rep.storeBox (hr : Rep C G N used st a w) {id : Id} {b n off el : Nat} (hb : G.β id = some (b, n)) {c : Array Value} (hh : w.heap[b]? = some (.cells c el (0, 0))) {ls : List (Leaf Ω)} {vs : List Value} (hf : BoxFit C G w id off ls vs) (hin : off + vs.length ≤ c.size) :
    Fr G.ρ w G.ρ (w.setRow b (spl c off vs)) ∧ Rep C G N used (boxW id off ls ++ st) a (w.setRow b (spl c off vs)) := by
  obtain ⟨hρ, _⟩ := hr.box id b n hb
  have hstep : ∀ {L : Loc → Prop}, (∀ j, ¬ L (.box id j) → (spl c off vs)[j]? = c[j]?) → Step G w G (w.setRow b (spl c off vs)) L := fun h =>
    setRow_step hr hρ hh (spl_size hin) (fun l e => by cases e) (fun id' e j hn => by cases e; exact h j hn) (by simp) (by simp)
  have hs1 := hstep (L := fun l => inL l ((boxW id off ls).map (·.1)) = true) (fun j hn => by
    rw [spl_get hin, if_neg]
    rintro ⟨h1, h2⟩
    have := hf.1
    apply hn
    rw [show j = off + (j - off) by omega]
    exact inL_boxW' (by omega))
  refine ⟨hs1.fr, ?_⟩
  refine Rep.step hr hs1 (fun l hl => ?_) (fun _ _ => rfl) hr.size hr.defers (fun _ _ _ h => .inl h) hr.usedΓ hr.usedβ
  obtain ⟨j, rfl, hj⟩ := inL_boxW hl
  rw [get_boxW, if_pos (by omega), show off + j - off = j by omega, List.getElem?_eq_getElem hj]
  simp only []
  have hjv : j < vs.length := by have := hf.1; omega
  refine .inr ⟨b, n, vs[j], hb, ?_, ?_⟩
  · rw [cell_setRow_same w b _ _ _ _ _ hh, spl_get hin, if_pos (by omega)]
    rw [show off + j - off = j by omega]
    exact List.getElem?_eq_getElem hjv
  · have h0 := hf.2 j ls[j] vs[j] (List.getElem?_eq_getElem hj) (List.getElem?_eq_getElem hjv)
    -- what stands in the leaf owns no block of the box
    have hs2 := hstep (L := fun l => ∃ j, l = .box id j ∧ False ∨ l = .box id j) (fun j hn => absurd ⟨j, .inr rfl⟩ hn)
    cases hx : ls[j] with
    | arr id' e xs =>
      rw [hx] at h0
      obtain ⟨l', e1, e2, ha⟩ := h0
      cases e1
      refine ⟨_, rfl, e2, ?_⟩
      rcases ha with h | ⟨b2, o2, cap, c2, el2, hv, hc, hρ2, hh2, hsz, hx2⟩
      · exact .inl h
      · have hne : b2 ≠ b := by intro e; subst e; rw [hρ] at hρ2; cases hρ2
        exact .inr ⟨b2, o2, cap, c2, el2, hv, hc, hρ2, (setRow_other w b b2 _ hne).trans hh2, hsz, fun j hj => let ⟨vs, hr, hat⟩ := hx2 j hj; ⟨vs, hr.mono hs1.free, hat⟩⟩
    | omp id' k vt m =>
      rw [hx] at h0
      obtain ⟨l', bs, e1, e2, ha⟩ := h0
      cases e1
      refine ⟨_, bs, rfl, e2, ?_⟩
      obtain ⟨b2, es, clock, hv, hρ2, hh2, hsz, hbs, hx2, hr2⟩ := ha
      have hne : b2 ≠ b := by intro e; subst e; rw [hρ] at hρ2; cases hρ2
      exact ⟨b2, es, clock, hv, hρ2, (setRow_other w b b2 _ hne).trans hh2, hsz, hbs, fun j hj => let ⟨en, he, h1, h2⟩ := hx2 j hj; ⟨en, he, h1.mono hs1.free, h2.mono hs1.free⟩, hr2⟩
    | _ => rw [hx] at h0; exact ((h0.any (at' := none) trivial).step hs1 (fun _ e => by cases e)).any (at' := some (.box id (off + j))) trivial
theorem ok_storeBox (hT : TabOk P T) {t : Nat} {x y : Operand} {ti : TI} (hti : T.get t = some ti) {id : Id} {off n : Nat} {u : AV Ω} (hdst : dst = none) {G1 : Ghost} {used1 : Id → Prop}
    (hr1 : Rep C G1 N used1 st a w) (hx : RepL C G1 w none (.ref id off n : Leaf Ω) (a.eval x)) (hu : RepAV C G1 w (some (.box id off)) u (a.eval y)) (hfit : and (fitsV u ti.size) (Nat.ble (off + ti.size) n) = true)
    (hK : ∀ G' a' w', Fr G1.ρ w G'.ρ w' → Rep C G' N used1 (boxW id off (leavesOf u) ++ st) a' w' → K a' w') : (⟨dst, .store t x y, ty, pos, after, guard⟩ : Oper).wp P a w K Q := by
  subst hdst
  rw [Bool.and_eq_true] at hfit
  obtain ⟨hsz, hlen⟩ := fitsV_iff hfit.1
  have hle := Nat.le_of_ble_eq_true hfit.2
  obtain ⟨hbf, h1⟩ := BoxFit.of_av hu hsz
  obtain ⟨b, hb, e⟩ := hx
  obtain ⟨_, c, el, hh, hcn⟩ := hr1.box id b n hb
  have hcs : (a.eval y).cells.size = ti.size := by
    have := hbf.1
    simp at this
    omega
  have hl2 : (a.eval y).cells.toList.length = ti.size := by simpa using hcs
  obtain ⟨hfr, hrep⟩ := hr1.storeBox hb hh hbf (by omega)
  exact wp_skip (run_store_op e (run_storeVar hT hti hh hcs (by omega) h1)) (hK _ _ _ hfr hrep)
/-- An element's place is written. -/
theorem elem_spl {e : Ty} {o cap : Nat} {c : Array Value} {k off : Nat} {vs nv : List Value} (hcap : o + cap * width e ≤ c.size) (hk : k < cap) (hvs : vs.length = width e) (hnv : off + nv.length ≤ width e)
    (hat : ∀ i v, vs[i]? = some v → c[o + k * width e + i]? = some v) : (∀ i v, ((vs.take off ++ nv ++ vs.drop (off + nv.length)) : List Value)[i]? = some v → (spl c (o + k * width e + off) nv)[o + k * width e + i]? = some v) ∧
    ∀ (j : Nat) (us : List Value), j ≠ k → us.length = width e → (∀ i v, us[i]? = some v → c[o + j * width e + i]? = some v) → ∀ i v, us[i]? = some v → (spl c (o + k * width e + off) nv)[o + j * width e + i]? = some v := by
  have hkw : k * width e + width e ≤ cap * width e := by
    have : (k + 1) * width e ≤ cap * width e := Nat.mul_le_mul_right _ hk
    rw [Nat.add_mul] at this; omega
  have hin : o + k * width e + off + nv.length ≤ c.size := by omega
  refine ⟨fun i v hi => ?_, fun j us hj hus hau i v hi => ?_⟩
  · rw [spl_get hin]
    have hl : (vs.take off).length = off := by simp; omega
    rw [List.append_assoc, List.getElem?_append, hl] at hi
    by_cases h1 : i < off
    · rw [if_pos h1, List.getElem?_take, if_pos h1] at hi
      rw [if_neg (by omega)]
      exact hat i v hi
    · rw [if_neg h1, List.getElem?_append] at hi
      by_cases h2 : i - off < nv.length
      · rw [if_pos h2] at hi
        rw [if_pos (by omega), show o + k * width e + i - (o + k * width e + off) = i - off by omega]
        exact hi
      · rw [if_neg h2, List.getElem?_drop, show off + nv.length + (i - off - nv.length) = i by omega] at hi
        rw [if_neg (by omega)]
        exact hat i v hi
  · have hi' : i < width e := by rw [← hus]; exact (List.getElem?_eq_some_iff.1 hi).1
    rw [spl_get hin, if_neg]
    · exact hau i v hi
    · rintro ⟨h1, h2⟩
      rcases Nat.lt_or_gt_of_ne hj with h | h
      · have : (j + 1) * width e ≤ k * width e := Nat.mul_le_mul_right _ h
        rw [Nat.add_mul] at this
        omega
      · have : (k + 1) * width e ≤ j * width e := Nat.mul_le_mul_right _ h
        rw [Nat.add_mul] at this
        omega
theorem Rep.storeArr (hr : Rep C G N used st a w) {l : Loc} {id : Id} {e : Ty} {xs : List (El e)} (hl : st.get l = .one (.arr id e xs)) {b o len cap off : Nat} {bs : List Nat} {k : Nat} (hΓ : G.Γ id = some (.slice (some ⟨b, o, none⟩) len cap, bs)) (hk : k < xs.length)
    {z : El e} {nv vs : List Value} (hrv : RepC w G.O e xs[k] vs) (hvc : ∃ c el, w.heap[b]? = some (.cells c el (0, 0)) ∧ ∀ i v, vs[i]? = some v → c[o + k * width e + i]? = some v) (hnv : off + nv.length ≤ width e) (hz : RepC w G.O e z (vs.take off ++ nv ++ vs.drop (off + nv.length))) :
    ∃ c el, w.heap[b]? = some (.cells c el (0, 0)) ∧ o + k * width e + off + nv.length ≤ c.size ∧ Fr G.ρ w G.ρ (w.setRow b (spl c (o + k * width e + off) nv)) ∧
      Rep C G N used ([(l, .one (.arr id e (xs.set k z)))] ++ st) a (w.setRow b (spl c (o + k * width e + off) nv)) := by
  have ha := ali_arr hr ⟨bs, hΓ⟩ hl (idB_iff.2 rfl)
  rcases ha with ⟨rfl, _⟩ | ⟨b2, o2, cap2, c, el, ev, hcap, hρ, hh, hsz, hx⟩
  · simp at hk
  cases ev
  obtain ⟨c', el', hh', hvc⟩ := hvc
  rw [hh] at hh'
  cases hh'
  have hvl := RepC_len hrv
  obtain ⟨e1, e2⟩ := elem_spl hsz (Nat.lt_of_lt_of_le hk hcap) hvl hnv hvc
  have hkw : k * width e + width e ≤ cap * width e := by
    have : (k + 1) * width e ≤ cap * width e := Nat.mul_le_mul_right _ (by omega)
    rw [Nat.add_mul] at this; omega
  have hin : o + k * width e + off + nv.length ≤ c.size := by omega
  have hs1 := setRow_step hr hρ hh (spl_size hin) (L := fun l' => inL l' [l] = true) (fun l' h => by cases h; simp [inL, locB_self]) (fun id' h => by cases h) (by simp) (by simp)
  refine ⟨c, el, hh, hin, hs1.fr, ?_⟩
  refine Rep.step (ws := [(l, .one (.arr id e (xs.set k z)))]) hr hs1 (fun l' hl' => ?_) (fun _ _ => rfl) hr.size hr.defers (fun _ _ _ h => .inl h) hr.usedΓ hr.usedβ
  obtain rfl : l' = l := by simpa [inL_iff] using hl'
  have hg : S.get [(l', AV.one (Leaf.arr (Ω := Ω) id e (xs.set k z)))] l' = .one (.arr id e (xs.set k z)) := by simp [S.get, locB_self]
  rw [hg]
  have hat := hr.at_ l'
  rw [hl] at hat
  have key : ∀ v, RepL C G w (some l') (.arr id e xs) v → RepL C G (w.setRow b (spl c (o + k * width e + off) nv)) (some l') (.arr id e (xs.set k z)) v := by
    rintro v ⟨l2, e0, ⟨bs', hΓ'⟩, _⟩
    cases e0
    rw [hΓ] at hΓ'
    cases hΓ'
    refine ⟨_, rfl, ⟨bs, hΓ⟩, .inr ⟨b, o, cap, _, el, by simp, by simpa using hcap, hρ, setRow_heap w b _ _ _ _ hh, by rw [spl_size hin]; exact hsz, fun j hj => ?_⟩⟩
    have hj' : j < xs.length := by simpa using hj
    by_cases e3 : j = k
    · subst e3
      refine ⟨_, ?_, e1⟩
      simp only [List.getElem_set_self]
      exact hz.mono hs1.free
    · obtain ⟨us, hru, hau⟩ := hx j hj'
      refine ⟨us, ?_, e2 j us e3 (RepC_len hru) hau⟩
      rw [List.getElem_set_ne (by omega)]
      exact hru.mono hs1.free
  cases l' with
  | tmp t => exact key _ hat
  | comp t i =>
    rcases hat with h | ⟨v, h⟩
    · cases h
    · exact .inr ⟨v, key v h⟩
  | box id' j =>
    rcases hat with h | ⟨b', n', v, hb, hc, h⟩
    · cases h
    · have hne : b' ≠ b := by
        intro e; subst e
        rw [(hr.box id' b' n' hb).1] at hρ
        cases hρ
      exact .inr ⟨b', n', v, hb, (cell_setRow_other w b _ _ hne).trans hc, key v h⟩
  | om => rcases hat with h | ⟨s, h, _⟩ <;> cases h
theorem ok_store (hT : TabOk P T) {t : Nat} {x y : Operand} {frz : Bool} (hdst : dst = none) : OpOk P C N rc i ⟨dst, .store t x y, ty, pos, after, guard⟩
    (Prg.opt (T.get t) fun ti => opG x fun va => (match va with
      | .one (.ref b off n) => opG y fun v => (match frz with
        | true => freeze y v fun u => (match and (fitsV u ti.size) (Nat.ble (off + ti.size) n) with | true => .done (boxW b off (leavesOf u)) | false => .fail)
        | false => takeV y (rc, i, 1) v fun u => (match and (fitsV u ti.size) (Nat.ble (off + ti.size) n) with | true => .done (boxW b off (leavesOf u)) | false => .fail))
      | .one (.aptr l id sz n off) => opG y fun v => freeze y v fun u => .get l fun w => (match w with
        | .one (.arr id' e xs) => (match and (idB id id') (and (Nat.beq sz (width e)) (Nat.ble (off + ti.size) (width e))), fitsV u ti.size with
          | true, true => .bind (idx xs n) fun y => Prg.opt (packAll e ((unpack e y).take off ++ leavesOf u ++ (unpack e y).drop (off + ti.size))) fun z =>
              .done [(l, .one (.arr id' e (xs.set n.toNat z)))]
          | _, _ => .fail)
        | _ => .fail)
      | _ => .fail)) := by
  intro G used st a w acc rs ws hr hf h K Q hK
  obtain ⟨ti, hti, h⟩ := runs_opt h
  obtain ⟨va, acc1, h, hva, -⟩ := runs_opG hr h
  split at h
  · rename_i bid off n
    obtain ⟨v, acc2, h, hv, hs⟩ := runs_opG hr h
    have hva' : RepAV C G w none (.one (.ref bid off n : Leaf Ω)) (a.eval x) := hva.any trivial
    cases frz with
    | true =>
      obtain ⟨u, ws', ws2, acc3, G1, rfl, h, hm, hΓ, hβ, hr1, hu, hn⟩ := runs_freeze hr hv hs h
      cases hfit : and (fitsV u ti.size) (Nat.ble (off + ti.size) n) with
      | false => simp only [hfit] at h; exact h.elim
      | true =>
        simp only [hfit] at h
        obtain ⟨rfl, -⟩ := h
        exact ok_storeBox hT hti hdst (hr1.at_op rc i) (RepAV.moves hm hva') (hu.any hn) hfit (hK_step hm.fr hK)
    | false =>
      obtain ⟨u, ws', ws2, acc3, G1, rfl, h, hm, hβ, hr1, hu⟩ := runs_take hr hv hs (.box bid off) (hf 1) (used' := usedAt used rc i) (fun _ h => .inl h) (.inr ⟨1, rfl⟩) h
      cases hfit : and (fitsV u ti.size) (Nat.ble (off + ti.size) n) with
      | false => simp only [hfit] at h; exact h.elim
      | true =>
        simp only [hfit] at h
        obtain ⟨rfl, -⟩ := h
        exact ok_storeBox hT hti hdst hr1 (RepAV.moves hm hva') hu hfit (hK_step hm.fr hK)
  · rename_i l id sz n off
    have hva' : RepAV C G w none (.one (.aptr l id sz n off : Leaf Ω)) (a.eval x) := hva.any trivial
    obtain ⟨v, acc2, h, hv, hs⟩ := runs_opG hr h
    obtain ⟨u, ws', ws2, acc3, G1, rfl, h, hm, hΓe, hβ, hr1, hu, hn⟩ := runs_freeze hr hv hs h
    obtain ⟨b, o', len, cap, bs, hΓ, h0, h1, e⟩ := RepAV.moves hm hva'
    have h' : Prg.Runs (ws' ++ st) (match S.get (ws' ++ st) l with
      | .one (.arr id' e xs) => (match and (idB id id') (and (Nat.beq sz (width e)) (Nat.ble (off + ti.size) (width e))), fitsV u ti.size with
          | true, true => .bind (idx xs n) fun y => Prg.opt (packAll e ((unpack e y).take off ++ leavesOf u ++ (unpack e y).drop (off + ti.size))) fun z =>
              .done [(l, .one (.arr id' e (xs.set n.toNat z)))]
          | _, _ => .fail)
      | _ => .fail) (l :: acc3) rs ws2 := h
    split at h'
    · rename_i id' e' xs hl
      split at h'
      · rename_i hc hfit
        rw [Bool.and_eq_true, Bool.and_eq_true] at hc
        obtain ⟨hid, hsz, hle⟩ := hc
        obtain rfl := idB_iff.1 hid
        obtain rfl := Nat.eq_of_beq_eq_true hsz
        have hle := Nat.le_of_ble_eq_true hle
        obtain ⟨yv, hy, h'⟩ := h'
        obtain ⟨h2, h3, rfl⟩ := idx_some hy
        obtain ⟨z, hz, h'⟩ := runs_opt h'
        obtain ⟨rfl, -⟩ := h'
        obtain ⟨hsz2, hlen⟩ := fitsV_iff hfit
        have hlv := leaves_rep hu hsz2
        have hl1 := leaves_one hu hsz2
        have hlvl := hlv.length
        have hcs : (a.eval y).cells.size = ti.size := by
          have : (a.eval y).cells.toList.length = (a.eval y).cells.size := Array.length_toList
          omega
        have ha := ali_arr hr1 ⟨bs, hΓ⟩ hl (idB_iff.2 rfl)
        rcases ha with ⟨rfl, _⟩ | ⟨b2, o2, cap2, c, el, ev, hcap, hρ, hh, hsz3, hx⟩
        · simp at h3
        cases ev
        obtain ⟨vs, hrv, hat⟩ := hx _ h3
        have hzr : RepC w G1.O e' z (vs.take off ++ (a.eval y).cells.toList ++ vs.drop (off + (a.eval y).cells.toList.length)) := by
          have hun := unpack_rep (C := C) hrv
          have := packAll_rep (C := C) hz (((hun.take off).append hlv).append (hun.drop (off + ti.size)))
          rw [Array.length_toList, hcs]
          exact this
        obtain ⟨c', el', hh', hin, hfr, hrep⟩ := hr1.storeArr (off := off) hl hΓ h3 hrv ⟨c, el, hh, hat⟩ (by rw [Array.length_toList, hcs]; exact hle) hzr
        rw [hh] at hh'
        cases hh'
        rw [Array.length_toList, hcs] at hin
        subst hdst
        refine wp_skip (run_store_op e (run_storeVar hT hti hh hcs hin hl1)) ?_
        exact hK_step hm.fr hK _ _ _ hfr (hrep.at_op rc i)
      · exact h'.elim
    · exact h'.elim
  · exact h.elim
end
end Go.Proofs.Ytbgefphoochgcaa.FE
