/- FE, part 14: operations that make and write variables. -/
import Derived.Test.YtbgefphoochgcaaFeM
import Derived.Laws.AppendOwn
import Derived.Laws.MakeOwn
namespace Go.Proofs.Ytbgefphoochgcaa.FE
open Go
set_option linter.unusedVariables false
set_option linter.unusedSimpArgs false
section
variable {Ω : Type} {C : CloRep Ω} {P : Program} {T : Tab} {N : Nat}
variable {rc i : Nat} {dst : Option Nat} {ty : Nat} {pos : String} {after : Array Edge} {guard : Option (Nat × Bool)}
variable {G : Ghost} {used used' : Id → Prop} {st ws : S Ω} {a : Act} {w w' : World} {acc rs : List Loc} {o : Oper} {K : Act → World → Prop} {Q : Exit → Act → World → Prop}

/-! ### a new block -/
structure Pushed (w w' : World) (o : Obj) : Prop where
  heap : w'.heap = w.heap.push o
  os : w'.os = w.os
  tape : w'.tape = w.tape
  output : w'.output = w.output
theorem Pushed.alloc (w : World) (o : Obj) : Pushed w (w.alloc o) o := ⟨rfl, rfl, rfl, rfl⟩
theorem Pushed.drewAlloc (w : World) (o : Obj) : Pushed w (w.drew.alloc o) o := ⟨rfl, rfl, rfl, rfl⟩
theorem Pushed.old {o : Obj} (h : Pushed w w' o) {b : Nat} (hb : b < w.heap.size) : w'.heap[b]? = w.heap[b]? := by
  rw [h.heap, Array.getElem?_push, if_neg (by omega)]
theorem Pushed.new {o : Obj} (h : Pushed w w' o) : w'.heap[w.heap.size]? = some o := by rw [h.heap, Array.getElem?_push, if_pos rfl]
theorem Pushed.size {o : Obj} (h : Pushed w w' o) : w'.heap.size = w.heap.size + 1 := by rw [h.heap, Array.size_push]
theorem Pushed.cell {o : Obj} (h : Pushed w w' o) {b j : Nat} (hb : b < w.heap.size) : w'.cell? ⟨b, j, none⟩ = w.cell? ⟨b, j, none⟩ := by
  simp [World.cell?, h.old hb]
/-- A new block, with its owner; and a new box. -/
def Ghost.new (G : Ghost) (b : Nat) (o : Option Own) : Ghost := { G with ρ := fun x => match Nat.beq x b with | true => o | false => G.ρ x }
def Ghost.newBox (G : Ghost) (id : Id) (b n : Nat) : Ghost := { G with β := fun x => match idB id x with | true => some (b, n) | false => G.β x, ρ := fun x => match Nat.beq x b with | true => some (.bx id) | false => G.ρ x }
theorem beq_self (b : Nat) : Nat.beq b b = true := Nat.beq_refl b
theorem beq_ne {a b : Nat} (h : a ≠ b) : Nat.beq a b = false := by
  cases e : Nat.beq a b
  · rfl
  · exact absurd (Nat.eq_of_beq_eq_true e) h
theorem new_at {b : Nat} {o : Option Own} : (G.new b o).ρ b = o := by simp [Ghost.new, beq_self]
theorem new_ne {b x : Nat} {o : Option Own} (h : x ≠ b) : (G.new b o).ρ x = G.ρ x := by simp [Ghost.new, beq_ne h]
theorem newBox_at {id : Id} {b n : Nat} : (G.newBox id b n).ρ b = some (.bx id) := by simp [Ghost.newBox, beq_self]
theorem newBox_ne {id : Id} {b n x : Nat} (h : x ≠ b) : (G.newBox id b n).ρ x = G.ρ x := by simp [Ghost.newBox, beq_ne h]
theorem newBox_β {id : Id} {b n : Nat} : (G.newBox id b n).β id = some (b, n) := by simp [Ghost.newBox, idB_iff.2 rfl]
theorem newBox_βne {id id' : Id} {b n : Nat} (h : id ≠ id') : (G.newBox id b n).β id' = G.β id' := by
  have : idB id id' = false := by
    cases e : idB id id'
    · rfl
    · exact absurd (idB_iff.1 e) h
  simp [Ghost.newBox, this]
theorem own_lt (hr : Rep C G N used st a w) {b : Nat} {o : Own} (h : G.ρ b = some o) : b < w.heap.size := hr.lt b (show G.ρ b ≠ none by rw [h]; simp)
theorem new_step (hr : Rep C G N used st a w) {ob : Obj} (hp : Pushed w w' ob) (o : Option Own) (L : Loc → Prop) : Step G w (G.new w.heap.size o) w' L where
  Γ _ _ h := h
  β _ _ h := h
  os := hp.os
  tape := hp.tape
  output := hp.output
  size := by rw [hp.size]; omega
  free b hb ho := ⟨hp.old hb, show ¬ (G.new w.heap.size o).ρ b ≠ none by rw [new_ne (by omega)]; exact ho⟩
  own b l h _ := ⟨hp.old (own_lt hr h), by rw [new_ne (by have := own_lt hr h; omega)]; exact h⟩
  ext b h := ⟨hp.old (own_lt hr h), by rw [new_ne (by have := own_lt hr h; omega)]; exact h⟩
  om b h _ := ⟨hp.old (own_lt hr h), by rw [new_ne (by have := own_lt hr h; omega)]; exact h⟩
  bx b n id h := by
    obtain ⟨h1, c, el, h2, h3⟩ := hr.box id b n h
    have hb := own_lt hr h1
    exact ⟨by rw [new_ne (by omega)]; exact h1, ⟨c, el, (hp.old hb).trans h2, h3⟩, fun j _ => hp.cell hb⟩
  lt b h := by
    rw [hp.size]
    by_cases e : b = w.heap.size
    · omega
    · have := hr.lt b (show G.ρ b ≠ none by have h' : (G.new w.heap.size o).ρ b ≠ none := h; rw [new_ne e] at h'; exact h')
      omega
  omr b hb h _ := by rw [new_ne (by omega)] at h; exact h
theorem newBox_step (hr : Rep C G N used st a w) {ob : Obj} (hp : Pushed w w' ob) {id : Id} (hid : ¬ used id) (n : Nat) (L : Loc → Prop) : Step G w (G.newBox id w.heap.size n) w' L where
  Γ _ _ h := h
  β id' b h := by
    rw [newBox_βne, h]
    intro e; subst e
    exact hid (hr.usedβ _ (by rw [h]; simp))
  os := hp.os
  tape := hp.tape
  output := hp.output
  size := by rw [hp.size]; omega
  free b hb ho := ⟨hp.old hb, show ¬ (G.newBox id w.heap.size n).ρ b ≠ none by rw [newBox_ne (by omega)]; exact ho⟩
  own b l h _ := ⟨hp.old (own_lt hr h), by rw [newBox_ne (by have := own_lt hr h; omega)]; exact h⟩
  ext b h := ⟨hp.old (own_lt hr h), by rw [newBox_ne (by have := own_lt hr h; omega)]; exact h⟩
  om b h _ := ⟨hp.old (own_lt hr h), by rw [newBox_ne (by have := own_lt hr h; omega)]; exact h⟩
  bx b n id h := by
    obtain ⟨h1, c, el, h2, h3⟩ := hr.box id b n h
    have hb := own_lt hr h1
    exact ⟨by rw [newBox_ne (by omega)]; exact h1, ⟨c, el, (hp.old hb).trans h2, h3⟩, fun j _ => hp.cell hb⟩
  lt b h := by
    rw [hp.size]
    by_cases e : b = w.heap.size
    · omega
    · have := hr.lt b (show G.ρ b ≠ none by have h' : (G.newBox id w.heap.size n).ρ b ≠ none := h; rw [newBox_ne e] at h'; exact h')
      omega
  omr b hb h _ := by rw [newBox_ne (by omega)] at h; exact h
theorem Rep.pushed (hr : Rep C G N used st a w) {ob : Obj} (hp : Pushed w w' ob) (o : Option Own) : Rep C (G.new w.heap.size o) N used st a w' :=
  Rep.step (ws := []) hr (new_step hr hp o _) (fun l hl => by simp [inL] at hl) (fun _ _ => rfl) hr.size hr.defers (fun _ _ _ h => .inl h) hr.usedΓ hr.usedβ

/-! ### the leaves of a box -/
theorem get_boxW {id : Id} : ∀ (ls : List (Leaf Ω)) (k j : Nat), S.get (boxW id k ls) (.box id j) = if k ≤ j then (match ls[j - k]? with | some x => .one x | none => .one .dead) else .one .dead
  | [], k, j => by simp [boxW, S.get]
  | l :: ls, k, j => by
    simp only [boxW, S.get]
    by_cases e : k = j
    · subst e; simp [locB_self]
    · rw [locB_ne (by intro h; cases h; exact e rfl)]
      simp only []
      rw [get_boxW ls (k + 1) j]
      by_cases h : k ≤ j
      · rw [if_pos h, if_pos (by omega), show j - k = (j - (k + 1)) + 1 by omega]
        simp
      · rw [if_neg h, if_neg (by omega)]
theorem inL_boxW {id : Id} {l : Loc} : ∀ {ls : List (Leaf Ω)} {k : Nat}, inL l ((boxW id k ls).map (·.1)) = true → ∃ j, l = .box id (k + j) ∧ j < ls.length
  | [], k, h => by simp [boxW, inL] at h
  | x :: ls, k, h => by
    simp only [boxW, List.map_cons, inL] at h
    split at h
    · rename_i e
      exact ⟨0, (locB_iff.1 e).symm, by simp⟩
    · obtain ⟨j, e, hj⟩ := inL_boxW h
      exact ⟨j + 1, by rw [e]; congr 1; omega, by simpa using hj⟩
theorem inL_boxW' {id : Id} : ∀ {ls : List (Leaf Ω)} {k j : Nat}, j < ls.length → inL (.box id (k + j)) ((boxW id k ls).map (·.1)) = true
  | [], k, j, h => by simp at h
  | x :: ls, k, j, h => by
    simp only [boxW, List.map_cons, inL]
    cases j with
    | zero => simp [locB_self]
    | succ j =>
      rw [locB_ne (by intro h; injection h with h1 h2; omega)]
      have := inL_boxW' (id := id) (ls := ls) (k := k + 1) (j := j) (by simpa using h)
      rw [show k + (j + 1) = k + 1 + j by omega]
      exact this
/-- Leaves and cells, each fit to stand at its place of a box. -/
def BoxFit (C : CloRep Ω) (G : Ghost) (w : World) (id : Id) (off : Nat) (ls : List (Leaf Ω)) (vs : List Value) : Prop :=
  ls.length = vs.length ∧ ∀ (j : Nat) x v, ls[j]? = some x → vs[j]? = some v → RepL C G w (some (.box id (off + j))) x v
theorem RepL.any {at_ at' : Option Loc} {l : Leaf Ω} {v : Value} (h : RepL C G w at_ l v) (hn : noOwn (.one l)) : RepL C G w at' l v := RepAV.any (u := .one l) hn h
theorem BoxFit.of_none {id : Id} {off : Nat} {ls : List (Leaf Ω)} {vs : List Value} (h : All2 (RepL C G w none) ls vs) : BoxFit C G w id off ls vs := by
  refine ⟨h.length, fun j x v hx hv => ?_⟩
  obtain ⟨v', hv', hr⟩ := h.get hx
  rw [hv] at hv'
  cases hv'
  exact hr.any (noOwn_of (u := .one x) (C := C) (G := G) (w := w) hr)
/-- What was taken for a box's first place fits there. -/
theorem BoxFit.of_av {id : Id} {off : Nat} {u : AV Ω} {v : Value} (h : RepAV C G w (some (.box id off)) u v) (hs : sizedV u = true) : BoxFit C G w id off (leavesOf u) v.cells.toList ∧ ∀ x ∈ v.cells.toList, x.oneCell' = true := by
  cases u with
  | one l =>
    have h' : RepL C G w (some (.box id off)) l v := h
    have h1 := noAgg_leaf h' (live_ne hs)
    rw [cells_one h1]
    refine ⟨⟨rfl, fun j x u hx hu => ?_⟩, by simpa using h1⟩
    cases j with
    | zero =>
      obtain rfl : l = x := by simpa [leavesOf] using hx
      obtain rfl : v = u := by simpa using hu
      exact h'
    | succ j => simp [leavesOf] at hx
  | agg ls =>
    have h0 : RepAV C G w none (.agg ls) v := h
    exact ⟨.of_none (leaves_rep h0 hs), leaves_one h0 hs⟩
  | tup ps => cases hs
theorem Rep.pushBox (hr : Rep C G N used st a w) {id : Id} (hid : ¬ used id) (hu : ∀ x, used x → used' x) (hi : used' id) {d : Nat} (hd : d < N) {ls : List (Leaf Ω)} {cells : Array Value} {el : Nat}
    (hf : BoxFit C G w id 0 ls cells.toList) (hp : Pushed w w' (.cells cells el (0, 0))) :
    Fr G.ρ w (G.newBox id w.heap.size cells.size).ρ w' ∧
    Rep C (G.newBox id w.heap.size cells.size) N used' ((.tmp d, .one (.ref id 0 cells.size)) :: boxW id 0 ls ++ st) (a.put (some d) (.pointer (some ⟨w.heap.size, 0, none⟩))) w' := by
  have hd' : d < a.tmps.size := by rw [hr.size]; exact hd
  have hstep := newBox_step hr hp hid cells.size
  refine ⟨(hstep (fun _ => False)).fr, ?_⟩
  refine Rep.step (ws := (.tmp d, .one (.ref id 0 cells.size)) :: boxW id 0 ls) hr (hstep _) (fun l hl => ?_) (fun t ht => ?_) (put_size.trans hr.size) (put_defers.trans hr.defers) (fun id' b n h => ?_) (fun x h => hu x (hr.usedΓ x h)) (fun x h => ?_)
  · by_cases e : l = .tmp d
    · subst e
      show RepAV C _ w' _ (S.get ((Loc.tmp d, _) :: boxW id 0 ls) (.tmp d)) ((a.put (some d) _).tmps.getD d undef)
      rw [getD_put hd']
      have : S.get ((Loc.tmp d, AV.one (Leaf.ref (Ω := Ω) id 0 cells.size)) :: boxW id 0 ls) (.tmp d) = .one (.ref id 0 cells.size) := by simp [S.get, locB_self]
      rw [this]
      exact ⟨_, newBox_β, rfl⟩
    · have hl' : inL l ((boxW id 0 ls).map (·.1)) = true := by
        simp only [List.map_cons, inL] at hl
        rwa [locB_ne (fun h => e h.symm)] at hl
      obtain ⟨j, rfl, hj⟩ := inL_boxW hl'
      have hlen := hf.1
      have hg : S.get ((Loc.tmp d, AV.one (Leaf.ref (Ω := Ω) id 0 cells.size)) :: boxW id 0 ls) (.box id (0 + j)) = .one ls[j] := by
        rw [S.get, locB_ne (by intro h; cases h)]
        simp only []
        rw [get_boxW]
        simp [hj]
      rw [hg]
      have hv : cells.toList[j]? = some (cells[j]'(by simpa [hlen] using hj)) := by
        rw [List.getElem?_eq_getElem (by omega)]; simp
      refine .inr ⟨w.heap.size, cells.size, _, newBox_β, ?_, ((hf.2 j _ _ (by simp [hj]) hv).step (hstep (fun _ => False)) (fun _ _ h => h))⟩
      simp [World.cell?, hp.new]
  · refine getD_put_ne fun e => ?_
    subst e
    simp [inL, locB_self] at ht
  · by_cases e : id = id'
    · subst e
      rw [newBox_β] at h
      cases h
      exact .inr ⟨newBox_at, cells, el, hp.new, rfl⟩
    · rw [newBox_βne e] at h
      exact .inl h
  · by_cases e : id = x
    · exact e ▸ hi
    · rw [newBox_βne e] at h
      exact hu x (hr.usedβ x h)
theorem hfresh {rc i : Nat} (hf : FreshAt used rc i) (s : Nat) : ¬ used (rc, i, s) := hf s
theorem ok_box (hT : TabOk P T) {t : Nat} {x : Operand} (hd : ∀ d, dst = some d → d < N) : OpOk P C N rc i ⟨dst, .box t x, ty, pos, after, guard⟩
    (Prg.opt (T.get t) fun ti => opG x fun v => takeV x (rc, i, 1) v fun u =>
      (match (generalizing := false) fitsV u ti.size, dst with
       | true, some d => .done ((.tmp d, .one (.ref (rc, i, 0) 0 ti.size)) :: boxW (rc, i, 0) 0 (leavesOf u))
       | _, _ => .fail)) := by
  intro G used st a w acc rs ws hr hf h K Q hK
  obtain ⟨ti, hti, h⟩ := runs_opt h
  obtain ⟨v, acc1, h, hv, hs⟩ := runs_opG hr h
  -- ids of this operation that are used by the take alone
  obtain ⟨u, ws', ws2, acc2, G1, rfl, h, hm, hβ, hr1, hu⟩ := runs_take hr hv hs (.box (rc, i, 0) 0) (hf 1) (used' := fun id => used id ∨ id = (rc, i, 1)) (fun _ h => .inl h) (.inr rfl) h
  rcases dst with _ | d
  · cases hfit : fitsV u ti.size <;> simp only [hfit] at h <;> exact h.elim
  cases hfit : fitsV u ti.size with
  | true =>
    simp only [hfit] at h
    obtain ⟨hsz, hlen⟩ := fitsV_iff hfit
    obtain ⟨rfl, -⟩ := h
    obtain ⟨hbf, h1⟩ := BoxFit.of_av hu hsz
    have hcs : (a.eval x).cells.size = ti.size := by
      have := hbf.1
      simp at this
      omega
    have hnid : ¬ (used (rc, i, 0) ∨ ((rc, i, 0) : Id) = (rc, i, 1)) := by
      rintro (h | h)
      · exact hf 0 h
      · cases h
    obtain ⟨hfr, hrep⟩ := hr1.pushBox hnid (used' := usedAt used rc i) (fun id h => by
      rcases h with h | rfl
      · exact .inl h
      · exact .inr ⟨1, rfl⟩) (.inr ⟨0, rfl⟩) (hd d rfl) (el := t) hbf (Pushed.alloc w (.cells (a.eval x).cells t))
    refine wp_value (v := .pointer (some ⟨w.heap.size, 0, none⟩)) (w' := w.alloc (.cells (a.eval x).cells t)) (by simp [execOp, Instr.box, newVar, newRow]) ?_
    refine hK_step hm.fr hK _ _ _ hfr ?_
    rw [← hcs]
    exact hrep
  | false => simp only [hfit] at h; exact h.elim
theorem ok_alloc (hT : TabOk P T) {t : Nat} (hd : ∀ d, dst = some d → d < N) : OpOk P C N rc i ⟨dst, .alloc t, ty, pos, after, guard⟩
    (Prg.opt (T.get t) fun ti =>
      (match (generalizing := false) and (Nat.beq (zeroLeaf (Ω := Ω) ti.ty).length ti.size) (Nat.blt 0 ti.size), dst with
       | true, some d => .done ((.tmp d, .one (.ref (rc, i, 0) 0 ti.size)) :: boxW (rc, i, 0) 0 (zeroLeaf ti.ty))
       | _, _ => .fail)) := by
  intro G used st a w acc rs ws hr hf h K Q hK
  obtain ⟨ti, hti, h⟩ := runs_opt h
  rcases dst with _ | d
  · cases hfit : and (Nat.beq (zeroLeaf (Ω := Ω) ti.ty).length ti.size) (Nat.blt 0 ti.size) <;> simp only [hfit] at h <;> exact h.elim
  cases hfit : and (Nat.beq (zeroLeaf (Ω := Ω) ti.ty).length ti.size) (Nat.blt 0 ti.size) with
  | true =>
    simp only [hfit] at h
    rw [Bool.and_eq_true] at hfit
    have hlen := Nat.eq_of_beq_eq_true hfit.1
    have hpos := Nat.blt_eq.mp hfit.2
    obtain ⟨rfl, -⟩ := h
    have hun : ti.ty ≠ .unit := by
      intro e
      rw [e] at hlen
      simp [zeroLeaf] at hlen
      omega
    obtain ⟨k, z, hki, hks, _, hkz, hzc, hza⟩ := zeroB_spec (hT.zero hti hun).1
    have hz := zeroLeaf_rep (C := C) (G := G) (w := w) ti.ty
    have hcs : z.cells.size = ti.size := by
      have := hz.length
      rw [← hzc] at this
      simp at this
      omega
    obtain ⟨hfr, hrep⟩ := hr.pushBox (hf 0) (used' := usedAt used rc i) (fun _ h => .inl h) (.inr ⟨0, rfl⟩) (hd d rfl) (el := t) (cells := z.cells) (BoxFit.of_none (by rw [hzc]; exact hz)) (Pushed.alloc w (.cells z.cells t))
    refine wp_value (v := .pointer (some ⟨w.heap.size, 0, none⟩)) (w' := w.alloc (.cells z.cells t)) (by simp [execOp, Instr.alloc, zeroValue, typeInfo, hki, hkz, newVar, newRow]) ?_
    rw [hcs] at hrep hfr
    exact hK _ _ _ hfr hrep
  | false => simp only [hfit] at h; exact h.elim
end
end Go.Proofs.Ytbgefphoochgcaa.FE
