/- FE, a verified evaluator of the program's functions over data: part 2 of 3. -/
import Derived.Test.YtbgefphoochgcaaFeM1
import Derived.Laws.MakeOwn
import Derived.Laws.AppendOwn
/- FE, part 16: maps are made and written. -/
namespace Go.Proofs.Ytbgefphoochgcaa.FE
open Go
set_option linter.unusedVariables false
set_option linter.unusedSimpArgs false
section
variable {Ω : Type} {C : CloRep Ω} {P : Program} {T : Tab} {N : Nat}
variable {rc i : Nat} {dst : Option Nat} {ty : Nat} {pos : String} {after : Array Edge} {guard : Option (Nat × Bool)}
variable {G : Ghost} {used used' : Id → Prop} {st ws : S Ω} {a : Act} {w w' : World} {acc rs : List Loc} {o : Oper} {K : Act → World → Prop} {Q : Exit → Act → World → Prop}

theorem bytes_beq (a b : ByteArray) : (a == b) = true ↔ a = b := by
  cases a with | mk a => cases b with | mk b =>
  rw [show ((ByteArray.mk a == ByteArray.mk b) = (a == b)) from rfl, beq_iff_eq]
  simp
structure Changed (w w' : World) (b : Nat) (ob : Obj) : Prop where
  heap : w'.heap = w.heap.setIfInBounds b ob
  lt : b < w.heap.size
  os : w'.os = w.os
  tape : w'.tape = w.tape
  output : w'.output = w.output
theorem Changed.at_ {b : Nat} {ob : Obj} (h : Changed w w' b ob) : w'.heap[b]? = some ob := by rw [h.heap]; simp [h.lt]
theorem Changed.other {b x : Nat} {ob : Obj} (h : Changed w w' b ob) (hne : x ≠ b) : w'.heap[x]? = w.heap[x]? := by rw [h.heap, Array.getElem?_setIfInBounds_ne (Ne.symm hne)]
theorem Changed.size {b : Nat} {ob : Obj} (h : Changed w w' b ob) : w'.heap.size = w.heap.size := by rw [h.heap]; simp
theorem changed_step (hr : Rep C G N used st a w) {b : Nat} {l : Loc} (hρ : G.ρ b = some (.at_ l)) {ob : Obj} (hc : Changed w w' b ob) {L : Loc → Prop} (hL : L l) : Step G w G w' L where
  Γ _ _ h := h
  β _ _ h := h
  os := hc.os
  tape := hc.tape
  output := hc.output
  size := by rw [hc.size]; omega
  free b' hb' ho := by
    refine ⟨hc.other ?_, ho⟩
    intro e; subst e
    exact ho (show G.ρ b' ≠ none by rw [hρ]; simp)
  own b' l' h hn := by
    refine ⟨hc.other ?_, h⟩
    intro e; subst e
    rw [hρ] at h
    cases h
    exact hn hL
  ext b' h := by
    refine ⟨hc.other ?_, h⟩
    intro e; subst e
    rw [hρ] at h; cases h
  om b' h hn := by
    refine ⟨hc.other ?_, h⟩
    intro e; subst e
    rw [hρ] at h; cases h
  bx b' n id h := by
    obtain ⟨g1, c', el', g2, g3⟩ := hr.box id b' n h
    have hne : b' ≠ b := by intro e; subst e; rw [hρ] at g1; cases g1
    exact ⟨g1, ⟨c', el', (hc.other hne).trans g2, g3⟩, fun j _ => by simp [World.cell?, hc.other hne]⟩
  lt b' h := by rw [hc.size]; exact hr.lt b' h
  omr _ _ h _ := h
/-- What stands at a place changes, the place itself doesn't. -/
theorem RepAt.change {G' : Ghost} {l : Loc} {x y : Leaf Ω} (h : RepAt C G a w l (.one x)) (hx : x ≠ .dead) (ho : ∀ s, x ≠ .opq s) (hβ : ∀ id b, G.β id = some b → G'.β id = some b)
    (hcell : ∀ id b n j, G.β id = some (b, n) → w'.cell? ⟨b, j, none⟩ = w.cell? ⟨b, j, none⟩) (hm : ∀ v, RepL C G w (some l) x v → RepL C G' w' (some l) y v) : RepAt C G' a w' l (.one y) := by
  cases l with
  | tmp t => exact hm _ h
  | comp t i =>
    rcases h with h | ⟨v, h⟩
    · cases h; exact absurd rfl hx
    · exact .inr ⟨v, hm v h⟩
  | box id j =>
    rcases h with h | ⟨b, n, v, hb, hc, h⟩
    · cases h; exact absurd rfl hx
    · exact .inr ⟨b, n, v, hβ _ _ hb, (hcell id b n j hb).trans hc, hm v h⟩
  | om =>
    rcases h with h | ⟨s, e, h⟩
    · cases h; exact absurd rfl hx
    · cases e; exact absurd rfl (ho s)
/-- What an array of entries stands for. -/
def Entries (w : World) (O : Nat → Prop) (k v : Ty) (m : List (El k × El v)) (es : Array MapEntry) (clock : Nat) (bs : List Nat) : Prop :=
  es.size = m.length ∧ es.toList.map (·.born) = bs ∧
    (∀ j (h : j < m.length), ∃ en, es[j]? = some en ∧ RepV w O k m[j].1 en.key ∧ RepV w O v m[j].2 en.val) ∧
    (∀ (i j : Nat) x y, es[i]? = some x → es[j]? = some y → x.born = y.born → i = j) ∧ ∀ (i : Nat) x, es[i]? = some x → x.born < clock
theorem Rep.changeMap (hr : Rep C G N used st a w) {l : Loc} {id nid : Id} {k v : Ty} {m m' : List (El k × El v)} (hl : st.get l = .one (.omp id k v m)) {b : Nat} {bs bs' : List Nat} (hΓ : G.Γ id = some (.map (some b), bs)) (hρ : G.ρ b = some (.at_ l))
    {es : Array MapEntry} {clock : Nat} (hc : Changed w w' b (.map es clock)) (he : Entries w G.O k v m' es clock bs') (hid : ¬ used nid) (hu : ∀ x, used x → used' x) (hi : used' nid) :
    Fr G.ρ w (G.name nid (.map (some b)) bs').ρ w' ∧ Rep C (G.name nid (.map (some b)) bs') N used' ([(l, .one (.omp nid k v m'))] ++ st) a w' := by
  have h1 := hr.name hid (.map (some b)) bs' hu hi
  have hs := changed_step h1 (l := l) hρ hc (L := fun l' => inL l' [l] = true) (by simp [inL, locB_self])
  refine ⟨hs.fr, ?_⟩
  refine Rep.step (ws := [(l, .one (.omp nid k v m'))]) h1 hs (fun l' hl' => ?_) (fun _ _ => rfl) h1.size h1.defers (fun _ _ _ h => .inl h) h1.usedΓ h1.usedβ
  obtain rfl : l' = l := by simpa [inL_iff] using hl'
  have hg : S.get [(l', AV.one (Leaf.omp (Ω := Ω) nid k v m'))] l' = .one (.omp nid k v m') := by simp [S.get, locB_self]
  rw [hg]
  have hat := hr.at_ l'
  rw [hl] at hat
  refine RepAt.change (G' := G.name nid (.map (some b)) bs') hat (by simp) (by simp) (fun _ _ h => h) (fun id' b' n j hb => ?_) (fun u hu => ?_)
  · have hne : b' ≠ b := by intro e; subst e; rw [(hr.box id' b' n hb).1] at hρ; cases hρ
    simp [World.cell?, hc.other hne]
  · obtain ⟨l2, bs2, e0, hΓ2, _⟩ := hu
    cases e0
    rw [hΓ] at hΓ2
    cases hΓ2
    obtain ⟨g1, g2, g3, g4, g5⟩ := he
    exact ⟨_, bs', rfl, name_at, b, es, clock, rfl, hρ, hc.at_, g1, g2, fun j hj => let ⟨en, he, h1, h2⟩ := g3 j hj; ⟨en, he, h1.mono hs.free, h2.mono hs.free⟩, g4, g5⟩
theorem MapRep.inv {ρ : Nat → Option Own} {ow : Own} {k v : Ty} {m : List (El k × El v)} {u : Value} {bs : List Nat} (h : MapRep ρ w ow k v m u bs) : ∃ b es clock, u = .map (some b) ∧ ρ b = some ow ∧ w.heap[b]? = some (.map es clock) ∧ Entries w (Ow ρ) k v m es clock bs := by
  obtain ⟨b, es, clock, h1, h2, h3, h4, h5, h6, h7, h8⟩ := h
  exact ⟨b, es, clock, h1, h2, h3, h4, h5, h6, h7, h8⟩
theorem posOf_le {k v : Ty} (x : El k) : ∀ m : List (El k × El v), posOf m x ≤ m.length
  | [] => by simp [posOf]
  | (a, b) :: r => by
    unfold posOf
    split
    · omega
    · have := posOf_le x r; simp only [List.length_cons]; omega
theorem upd_eq {k v : Ty} (x : El k) (y : El v) : ∀ m : List (El k × El v), upd m x y = if posOf m x < m.length then m.set (posOf m x) (x, y) else m ++ [(x, y)]
  | [] => by simp [upd, posOf]
  | (a, b) :: r => by
    unfold upd posOf
    cases h : keyEq k x a with
    | true => simp
    | false =>
      simp only [List.length_cons]
      rw [upd_eq x y r]
      by_cases h2 : posOf r x < r.length
      · rw [if_pos h2, if_pos (by omega)]; rfl
      · rw [if_neg h2, if_neg (by omega)]; rfl
/-- The key that is found is the key. -/
theorem posOf_key {t : Nat} {Kt Vt : Ty} (hk : keyB P t Kt = true) (x : El Kt) : ∀ (m : List (El Kt × El Vt)) (h : posOf m x < m.length), m[posOf m x].1 = x
  | [], h => by simp at h
  | (a, b) :: r, h => by
    cases hq : keyEq Kt x a with
    | true =>
      have e : posOf ((a, b) :: r) x = 0 := by simp [posOf, hq]
      simp only [e, List.getElem_cons_zero]
      rcases keyB_spec hk with ⟨k, rfl, _⟩ | ⟨rfl, _⟩
      · have : decide (x = a) = true := hq
        exact (of_decide_eq_true this).symm
      · have : (x == a) = true := hq
        exact ((bytes_beq x a).1 this).symm
    | false =>
      have e : posOf ((a, b) :: r) x = posOf r x + 1 := by simp [posOf, hq]
      simp only [e, List.getElem_cons_succ]
      exact posOf_key hk x r (by rw [e] at h; simpa using h)
theorem key_rep {t : Nat} {Kt : Ty} (hk : keyB P t Kt = true) {O : Nat → Prop} (x : El Kt) : RepV w O Kt x (keyV Kt x) := by
  rcases keyB_spec hk with ⟨k, rfl, _⟩ | ⟨rfl, _⟩ <;> exact (rfl : _ = _)
theorem key_rep_eq {t : Nat} {Kt : Ty} (hk : keyB P t Kt = true) {O : Nat → Prop} {x : El Kt} {v : Value} (h : RepV w O Kt x v) : v = keyV Kt x := by
  rcases keyB_spec hk with ⟨k, rfl, _⟩ | ⟨rfl, _⟩
  · have e : [v] = [Value.int k x] := h
    exact (List.cons.inj e).1
  · have e : [v] = [Value.string x] := h
    exact (List.cons.inj e).1
theorem sameBits_key {t : Nat} {Kt : Ty} (hk : keyB P t Kt = true) (x : El Kt) : Instr.sameBits 10000 (keyV Kt x) (keyV Kt x) = true := by
  rcases keyB_spec hk with ⟨k, rfl, _⟩ | ⟨rfl, _⟩ <;> simp [Instr.sameBits, keyV, (bytes_beq _ _).2]
/-- A map's entries, written. -/
def putEntry (es : Array MapEntry) (p n : Nat) (key v : Value) (clock : Nat) : Array MapEntry × Nat :=
  if p < n then (es.modify p fun e => { e with key := key, val := v }, clock) else (es.push { key := key, val := v, born := clock }, clock + 1)
theorem run_setObj {b : Nat} {ob ob' : Obj} (h : w.heap[b]? = some ob) (hne : ∀ c e f, ob ≠ .cells c e f) : (setObj b ob').run P w = .ok () { w with heap := w.heap.setIfInBounds b ob' } := by
  cases ob with
  | cells c e f => exact absurd rfl (hne c e f)
  | _ => simp [setObj, Sem.run, h]
theorem run_mapUpdate {t k v : Nat} {Kt Vt : Ty} (hu : P.underlying t = some (.map k v)) (hk : keyB P k Kt = true) {O : Nat → Prop} {m : List (El Kt × El Vt)} {b : Nat} {es : Array MapEntry} {clock : Nat} {bs : List Nat} (hh : w.heap[b]? = some (.map es clock)) (he : Entries w O Kt Vt m es clock bs) (x : El Kt) (y : Value) :
    (Instr.mapUpdate t (.map (some b)) (keyV Kt x) y).run P w = .ok () { w with heap := w.heap.setIfInBounds b (.map (putEntry es (posOf m x) m.length (keyV Kt x) y clock).1 (putEntry es (posOf m x) m.length (keyV Kt x) y clock).2) } := by
  obtain ⟨hs, _, hx, _, _⟩ := he
  have hc := run_checkKey (w := w) hk x false
  have hf := run_findKey (w := w) hk (O := O) (x := x) hs hx
  have hso : ∀ ob', (setObj b ob').run P w = .ok () { w with heap := w.heap.setIfInBounds b ob' } := fun ob' => run_setObj hh (by simp)
  have h1 := hf.1
  split at h1
  · rename_i hn
    have hp := hf.2.1 hn
    have e : putEntry es (posOf m x) m.length (keyV Kt x) y clock = (es.push { key := keyV Kt x, val := y, born := clock }, clock + 1) := by unfold putEntry; rw [if_neg (by omega)]
    rw [e]
    simp [Instr.mapUpdate, run_underlying hu, run_getObj hh, hc, h1, hso]
  · rename_i y0 hn
    obtain ⟨r, h1, _⟩ := h1
    have hp : posOf m x < m.length := by
      have := posOf_le (v := Vt) x m
      have h2 : ¬ posOf m x = m.length := fun e => by rw [hf.2.2 e] at hn; cases hn
      omega
    obtain ⟨en, hen, hkey, _⟩ := hx _ hp
    have e1 := key_rep_eq hk hkey
    rw [posOf_key hk x m hp] at e1
    have e : putEntry es (posOf m x) m.length (keyV Kt x) y clock = (es.modify (posOf m x) fun e => { e with key := keyV Kt x, val := y }, clock) := by unfold putEntry; rw [if_pos hp]
    rw [e]
    have hks : (Instr.keyThatStays (((es[posOf m x]?).map (·.key)).getD (keyV Kt x)) (keyV Kt x)).run P w = .ok (keyV Kt x) w := by
      rw [hen]
      simp [Instr.keyThatStays, e1, sameBits_key hk]
    simp [Instr.mapUpdate, run_underlying hu, run_getObj hh, hc, h1, hks, hso]
theorem Entries.upd {t : Nat} {Kt Vt : Ty} (hk : keyB P t Kt = true) {O : Nat → Prop} {m : List (El Kt × El Vt)} {es : Array MapEntry} {clock : Nat} {bs : List Nat} (he : Entries w O Kt Vt m es clock bs) {x : El Kt} {y : El Vt} {v : Value} (hv : RepV w O Vt y v) :
    Entries w O Kt Vt (upd m x y) (putEntry es (posOf m x) m.length (keyV Kt x) v clock).1 (putEntry es (posOf m x) m.length (keyV Kt x) v clock).2 (if posOf m x < m.length then bs else bs ++ [clock]) := by
  obtain ⟨hs, hb, hx, hi, hlt⟩ := he
  rw [upd_eq]
  unfold putEntry
  by_cases hp : posOf m x < m.length
  · rw [if_pos hp, if_pos hp, if_pos hp]
    have hget : ∀ j, (es.modify (posOf m x) fun e => { e with key := keyV Kt x, val := v })[j]? = (es[j]?).map fun e => if posOf m x = j then { e with key := keyV Kt x, val := v } else e := by
      intro j
      rw [Array.getElem?_modify]
      split
      · rfl
      · cases es[j]? <;> rfl
    have hborn : ∀ (j : Nat) e, (es.modify (posOf m x) fun e => { e with key := keyV Kt x, val := v })[j]? = some e → ∃ e', es[j]? = some e' ∧ e'.born = e.born := by
      intro j e h
      rw [hget] at h
      cases hj : es[j]? with
      | none => rw [hj] at h; cases h
      | some e' =>
        rw [hj] at h
        simp only [Option.map_some, Option.some.injEq] at h
        refine ⟨e', rfl, ?_⟩
        rw [← h]; split <;> rfl
    refine ⟨by simp [hs], ?_, fun j hj => ?_, fun i j e1 e2 h1 h2 h3 => ?_, fun i e h => ?_⟩
    · rw [← hb]
      apply List.ext_getElem?
      intro j
      simp only [List.getElem?_map, Array.getElem?_toList, hget]
      cases es[j]? with
      | none => rfl
      | some e => simp only [Option.map_some]; split <;> rfl
    · have hj' : j < m.length := by simpa using hj
      obtain ⟨en, hen, h1, h2⟩ := hx j hj'
      by_cases e : posOf m x = j
      · subst e
        refine ⟨_, by rw [hget, hen]; simp; rfl, ?_, ?_⟩
        · simp only [List.getElem_set_self]; exact key_rep hk x
        · simp only [List.getElem_set_self]; exact hv
      · refine ⟨en, by rw [hget, hen]; simp [e], ?_, ?_⟩
        · rw [List.getElem_set_ne e]; exact h1
        · rw [List.getElem_set_ne e]; exact h2
    · obtain ⟨f1, g1, g2⟩ := hborn i e1 h1
      obtain ⟨f2, g3, g4⟩ := hborn j e2 h2
      exact hi i j f1 f2 g1 g3 (by rw [g2, g4, h3])
    · obtain ⟨f1, g1, g2⟩ := hborn i e h
      rw [← g2]; exact hlt i f1 g1
  · rw [if_neg hp, if_neg hp, if_neg hp]
    have hget : ∀ j, (es.push { key := keyV Kt x, val := v, born := clock })[j]? = if j = es.size then some { key := keyV Kt x, val := v, born := clock } else es[j]? := fun j => by rw [Array.getElem?_push]
    refine ⟨by simp [hs], by simp [hb], fun j hj => ?_, fun i j e1 e2 h1 h2 h3 => ?_, fun i e h => ?_⟩
    · by_cases e : j < m.length
      · obtain ⟨en, hen, h1, h2⟩ := hx j e
        refine ⟨en, by rw [hget, if_neg (by omega)]; exact hen, ?_, ?_⟩
        · rw [List.getElem_append_left e]; exact h1
        · rw [List.getElem_append_left e]; exact h2
      · have e' : j = m.length := by simp at hj; omega
        subst e'
        refine ⟨_, by rw [hget, if_pos hs.symm], ?_, ?_⟩
        · simp only [List.getElem_concat_length]; exact key_rep hk x
        · simp only [List.getElem_concat_length]; exact hv
    · rw [hget] at h1 h2
      by_cases a1 : i = es.size <;> by_cases a2 : j = es.size
      · omega
      · rw [if_pos a1] at h1; rw [if_neg a2] at h2
        cases h1
        have := hlt j e2 h2
        simp at h3; omega
      · rw [if_neg a1] at h1; rw [if_pos a2] at h2
        cases h2
        have := hlt i e1 h1
        simp at h3; omega
      · rw [if_neg a1] at h1; rw [if_neg a2] at h2
        exact hi i j e1 e2 h1 h2 h3
    · rw [hget] at h
      split at h
      · cases h; simp
      · have := hlt i e h; omega
theorem aggV_rep {u : AV Ω} {x : Value} (hu : RepAV C G w none u x) (hs : sizedV u = true) : aggB x = aggV u := by
  cases u with
  | one l =>
    have h' : RepL C G w none l x := hu
    have := noAgg_leaf h' (live_ne hs)
    cases x <;> first | rfl | cases this
  | agg ls => obtain ⟨vs, rfl, _⟩ := hu; rfl
  | tup ps => cases hs
theorem mapT_runs {ti : TI} {Kt Vt : Ty} {p : Prg Ω} (h : (mapT ti Kt Vt p).Runs st acc rs ws) : ∃ k v, ti.kind = .mp k v ∧ ti.ty = .mp Kt Vt ∧ p.Runs st acc rs ws := by
  unfold mapT at h
  split at h
  · rename_i k v K' V' hk hty
    split at h
    · rename_i he
      rw [Bool.and_eq_true] at he
      obtain rfl := Ty.eq_of_beq he.1
      obtain rfl := Ty.eq_of_beq he.2
      exact ⟨k, v, hk, hty, h⟩
    · exact h.elim
  · exact h.elim
/-- A value's operand, for an element. -/
theorem elem_op {t : Nat} {Vt : Ty} (hv : zeroB P t Vt = true) {u : AV Ω} {x : Value} (hu : RepAV C G w none u x) (hf : fitsV u (width Vt) = true) {y : El Vt} (hp : packAll Vt (leavesOf u) = some y) (hagg : aggB x = rowB Vt) : RepV w G.O Vt y x := by
  obtain ⟨hs, _⟩ := fitsV_iff hf
  have h := packAll_rep (C := C) hp (leaves_rep hu hs)
  unfold RepV Val
  cases hr : rowB Vt with
  | true =>
    rw [hr] at hagg
    cases x <;> simp [aggB] at hagg
    exact ⟨_, rfl, h⟩
  | false =>
    rw [hr] at hagg
    have : x.cells.toList = [x] := by cases x <;> first | rfl | simp [aggB] at hagg
    rwa [this] at h
theorem ok_mapUpdateC (hT : TabOk P T) {t : Nat} {m k x : Operand} (hdst : dst = none) {op : Op} (hop : ∀ ρ, execOp ρ ⟨dst, op, ty, pos, after, guard⟩ = (do Instr.mapUpdate t (ρ m) (ρ k) (ρ x); pure .skip)) : OpOk P C N rc i ⟨dst, op, ty, pos, after, guard⟩
    (Prg.opt (T.get t) fun ti => opG m fun vm => opG k fun vk => opG x fun vx => freeze x vx fun u => mapG m vm fun l id K V mm => mapT ti K V <|
      Prg.opt (packAll K (keyL vk)) fun kk => (match and (fitsV u (width V)) (aggV u == rowB V) with
      | true => Prg.opt (packAll V (leavesOf u)) fun vv => .done [(l, .one (.omp (rc, i, 0) K V (upd mm kk vv)))]
      | false => .fail)) := by
  intro G used st a w acc rs ws hr hf h K Q hK
  obtain ⟨ti, hti, h⟩ := runs_opt h
  obtain ⟨vm, acc1, h, hvm, -⟩ := runs_opG hr h
  obtain ⟨vk, acc2, h, hvk, -⟩ := runs_opG hr h
  obtain ⟨vx, acc3, h, hvx, hsx⟩ := runs_opG hr h
  obtain ⟨u, ws', ws2, acc4, G1, rfl, h, hm, hΓe, hβ, hr1, hu, hn⟩ := runs_freeze hr hvx hsx h
  obtain ⟨l, id, Kt, Vt, mm, acc5, bs, h, hl, hΓ, hmr⟩ := mapG_runs hr1 (x := a.eval m) (fun l id ho => by
    obtain ⟨bs, hb⟩ := ownLoc_rep hvm ho
    exact ⟨bs, hm.Γ _ _ hb⟩) h
  obtain ⟨k0, v0, hk, hty, h⟩ := mapT_runs h
  obtain ⟨hul, hkv⟩ := hT.mp hti hk
  obtain ⟨hkb, hvb⟩ := hkv _ _ hty
  obtain ⟨kk, hkk, h⟩ := runs_opt h
  have ek := key_op hkb hvk hkk
  cases hfit : and (fitsV u (width Vt)) (aggV u == rowB Vt) with
  | false => simp only [hfit] at h; exact h.elim
  | true =>
    simp only [hfit] at h
    obtain ⟨vv, hvv, h⟩ := runs_opt h
    obtain ⟨rfl, -⟩ := h
    rw [Bool.and_eq_true, beq_iff_eq] at hfit
    have hvr := elem_op hvb hu hfit.1 hvv (by rw [← hfit.2]; exact aggV_rep hu (fitsV_iff hfit.1).1)
    obtain ⟨b, es, clock, em, hρ, hh, he⟩ := hmr.inv
    have hrun := run_mapUpdate (w := w) hul hkb hh he kk (a.eval x)
    have hlt := heap_lt hh
    rw [em] at hΓ
    obtain ⟨hfr, hrep⟩ := hr1.changeMap hl hΓ hρ (w' := { w with heap := w.heap.setIfInBounds b (.map (putEntry es (posOf mm kk) mm.length (keyV Kt kk) (a.eval x) clock).1 (putEntry es (posOf mm kk) mm.length (keyV Kt kk) (a.eval x) clock).2) })
      ⟨rfl, hlt, rfl, rfl, rfl⟩ (he.upd hkb hvr) (nid := (rc, i, 0)) (hf 0) (used' := usedAt used rc i) (fun _ h => .inl h) (.inr ⟨0, rfl⟩)
    subst hdst
    refine wp_skip (w' := { w with heap := w.heap.setIfInBounds b (.map (putEntry es (posOf mm kk) mm.length (keyV Kt kk) (a.eval x) clock).1 (putEntry es (posOf mm kk) mm.length (keyV Kt kk) (a.eval x) clock).2) }) ?_ ?_
    · rw [hop, em, ek]
      simp [hrun]
    · exact hK_step hm.fr hK _ _ _ hfr hrep
theorem Rep.newOwned (hr : Rep C G N used st a w) {ob : Obj} (hp : Pushed w w' ob) {d : Nat} (hd : d < N) {nid : Id} (hid : ¬ used nid) (hu : ∀ x, used x → used' x) (hi : used' nid) {u : AV Ω} {v : Value} {bs : List Nat}
    (hrep : RepAV C ((G.new w.heap.size (some (.at_ (.tmp d)))).name nid v bs) w' (some (.tmp d)) u v) :
    Fr G.ρ w ((G.new w.heap.size (some (.at_ (.tmp d)))).name nid v bs).ρ w' ∧ Rep C ((G.new w.heap.size (some (.at_ (.tmp d)))).name nid v bs) N used' ([(.tmp d, u)] ++ st) (a.put (some d) v) w' := by
  have h1 := hr.pushed hp (some (.at_ (.tmp d)))
  have h2 := h1.name hid v bs hu hi
  exact ⟨(new_step hr hp (some (.at_ (.tmp d))) (fun _ => False)).fr, h2.put hd hrep⟩
theorem ok_makeMap (hT : TabOk P T) {t : Nat} (hd : ∀ d, dst = some d → d < N) : OpOk P C N rc i ⟨dst, .makeMap t none, ty, pos, after, guard⟩
    (Prg.opt (T.get t) fun ti => (match (generalizing := false) ti.kind, ti.ty, dst with
      | .mp _ _, .mp k v, some d => .done [(.tmp d, .one (.omp (rc, i, 0) k v []))]
      | _, _, _ => .fail)) := by
  intro G used st a w acc rs ws hr hf h K Q hK
  obtain ⟨ti, hti, h⟩ := runs_opt h
  rcases dst with _ | d
  · exfalso
    cases hk : ti.kind <;> cases hty : ti.ty <;> simp only [hk, hty] at h <;> exact h.elim
  cases hk : ti.kind with
  | mp k0 v0 =>
    cases hty : ti.ty with
    | mp Kt Vt =>
      simp only [hk, hty] at h
      obtain ⟨rfl, -⟩ := h
      have hp := Pushed.alloc w (.map #[] 0)
      obtain ⟨hfr, hrep⟩ := hr.newOwned hp (hd d rfl) (hf 0) (used' := usedAt used rc i) (fun _ h => .inl h) (.inr ⟨0, rfl⟩) (u := .one (.omp (rc, i, 0) Kt Vt [])) (v := .map (some w.heap.size)) (bs := [])
        ⟨_, [], rfl, name_at, w.heap.size, #[], 0, rfl, new_at, hp.new, rfl, rfl, fun j hj => by simp at hj, fun i j x y h => by simp at h, fun i x h => by simp at h⟩
      exact wp_value (v := .map (some w.heap.size)) (w' := w.alloc (.map #[] 0)) (by simp [execOp, Instr.makeMap]) (hK _ _ _ hfr hrep)
    | _ => simp only [hk, hty] at h; exact h.elim
  | _ => simp only [hk] at h; exact h.elim
end
end Go.Proofs.Ytbgefphoochgcaa.FE
/- FE, part 17: slices are made. -/
namespace Go.Proofs.Ytbgefphoochgcaa.FE
open Go
set_option linter.unusedVariables false
set_option linter.unusedSimpArgs false
section
variable {Ω : Type} {C : CloRep Ω} {P : Program} {T : Tab} {N : Nat}
variable {rc i : Nat} {dst : Option Nat} {ty : Nat} {pos : String} {after : Array Edge} {guard : Option (Nat × Bool)}
variable {G : Ghost} {used used' : Id → Prop} {st ws : S Ω} {a : Act} {w w' : World} {acc rs : List Loc} {o : Oper} {K : Act → World → Prop} {Q : Exit → Act → World → Prop}

theorem runs_putS {o : Oper} {own : Bool} {id : Id} {e : Ty} {xs : List (El e)} (h : (putS o own id e xs : Prg Ω).Runs st acc rs ws) : ∃ d, o.dst = some d ∧ ws = [(.tmp d, slV own id e xs)] := by
  unfold putS at h
  split at h
  · rename_i d hd; exact ⟨d, hd, h.1⟩
  · exact h.elim
/-- Owned, or data: as it is asked. -/
theorem Rep.ownOr {d : Nat} {id : Id} {e : Ty} {xs : List (El e)} (hr : Rep C G N used ([(.tmp d, .one (.arr id e xs))] ++ st) a w) (own : Bool) :
    ∃ G', Fr G.ρ w G'.ρ w ∧ Rep C G' N used ([(.tmp d, slV own id e xs)] ++ st) a w := by
  cases own with
  | true => exact ⟨G, Fr.refl _ _, hr⟩
  | false =>
    have hg : S.get ([(Loc.tmp d, AV.one (Leaf.arr id e xs))] ++ st) (.tmp d) = .one (.arr id e xs) := by simp [S.get, locB_self]
    obtain ⟨h1, _⟩ := hr.freezeArr hg
    refine ⟨_, (give_moves hr (.tmp d) none (fun e => by cases e)).fr, h1.congr fun l => ?_⟩
    by_cases e : Loc.tmp d = l
    · subst e; simp [slV, S.get, locB_self]
    · simp [slV, S.get, locB_ne e]
/-- A new row, that a slice stands for. -/
theorem fin_newSlice (hr : Rep C G N used st a w) (hf : ¬ used (rc, i, 0)) (hu : ∀ x, used x → used' x) (hi : used' (rc, i, 0)) {d : Nat} (hd : d < N) {c : Array Value} {el : Nat} (hp : Pushed w w' (.cells c el (0, 0))) {e : Ty} {ys : List (El e)} {cap : Nat} (hcap : ys.length ≤ cap) (hsz : cap * width e ≤ c.size)
    (hx : ∀ j (h : j < ys.length), ∃ vs, RepC w G.O e ys[j] vs ∧ ∀ i v, vs[i]? = some v → c[j * width e + i]? = some v) (own : Bool) :
    ∃ G', Fr G.ρ w G'.ρ w' ∧ Rep C G' N used' ([(.tmp d, slV own (rc, i, 0) e ys)] ++ st) (a.put (some d) (.slice (some ⟨w.heap.size, 0, none⟩) ys.length cap)) w' := by
  have hstep := new_step hr hp (some (.at_ (.tmp d))) (fun _ => False)
  obtain ⟨hfr, hrep⟩ := hr.newOwned hp hd hf hu hi (u := .one (.arr (rc, i, 0) e ys)) (v := .slice (some ⟨w.heap.size, 0, none⟩) ys.length cap) (bs := [])
    ⟨_, rfl, ⟨[], name_at⟩, .inr ⟨w.heap.size, 0, cap, c, el, rfl, hcap, new_at, hp.new, by omega, fun j hj => let ⟨vs, h1, h2⟩ := hx j hj; ⟨vs, h1.mono hstep.free, fun i v hi => by rw [Nat.zero_add]; exact h2 i v hi⟩⟩⟩
  obtain ⟨G', h1, h2⟩ := hrep.ownOr own
  exact ⟨G', hfr.trans h1, h2⟩
theorem fin_nilSlice (hr : Rep C G N used st a w) (hf : ¬ used (rc, i, 0)) (hu : ∀ x, used x → used' x) (hi : used' (rc, i, 0)) {d : Nat} (hd : d < N) {e : Ty} (own : Bool) :
    ∃ G', Fr G.ρ w G'.ρ w ∧ Rep C G' N used' ([(.tmp d, slV own (rc, i, 0) e ([] : List (El e)))] ++ st) (a.put (some d) (.slice none 0 0)) w := by
  have h1 := hr.name hf (.slice none 0 0) [] hu hi
  have h2 := h1.put hd (u := .one (.arr (rc, i, 0) e ([] : List (El e)))) (v := .slice none 0 0) ⟨_, rfl, ⟨[], name_at⟩, .inl ⟨rfl, rfl⟩⟩
  obtain ⟨G', h3, h4⟩ := Rep.ownOr (st := st) h2 own
  exact ⟨G', (name_step hr hf (.slice none 0 0) [] (fun _ => False)).fr.trans h3, h4⟩

/-! ### literals -/
theorem elemsP_runs {e : Ty} {place : Nat → Option (Nat × Nat)} (hpl : ∀ j, place j = some (j * width e, width e)) :
    ∀ (ps : List (Nat × Operand)) (n0 : Nat) (cells : Array Value) {G : Ghost} {st : S Ω} {f : List (El e) → Prg Ω} {acc : List Loc} {ws : List (Loc × AV Ω)}, Rep C G N used st a w → (n0 + ps.length) * width e ≤ cells.size → (elemsP e n0 ps f).Runs st acc rs ws →
      ∃ ys ws' ws2 acc' G1 cells', ws = ws2 ++ ws' ∧ (f ys).Runs (ws' ++ st) acc' rs ws2 ∧ Moves G w G1 ∧ Rep C G1 N used (ws' ++ st) a w ∧ ys.length = ps.length ∧
        Instr.fill place cells (opsV a ps) = some cells' ∧ cells'.size = cells.size ∧ (∀ j, j < n0 * width e → cells'[j]? = cells[j]?) ∧
        ∀ j (h : j < ys.length), ∃ vs, RepC w G1.O e ys[j] vs ∧ ∀ i v, vs[i]? = some v → cells'[(n0 + j) * width e + i]? = some v := by
  intro ps
  induction ps with
  | nil => intro n0 cells G st f acc ws hr _ h; exact ⟨[], [], ws, acc, G, cells, by simp, h, Step.refl' hr _, hr, rfl, rfl, rfl, fun _ _ => rfl, fun j hj => by simp at hj⟩
  | cons q ps ih =>
    obtain ⟨j0, x⟩ := q
    intro n0 cells G st f acc ws hr hle h
    simp only [List.length_cons] at hle
    have hmul : (n0 + (ps.length + 1)) * width e = n0 * width e + width e + ps.length * width e := by
      rw [Nat.add_mul, Nat.add_mul, Nat.one_mul]; omega
    have h' : Prg.Runs st (match Nat.beq n0 j0 with
      | true => opG x fun v => freeze x v fun u => match fitsV u (width e) with
        | true => Prg.opt (packAll e (leavesOf u)) fun y => elemsP e (n0 + 1) ps fun ys => f (y :: ys)
        | false => .fail
      | false => .fail) acc rs ws := h
    split at h'
    · rename_i hj
      obtain rfl := Nat.eq_of_beq_eq_true hj
      obtain ⟨v, acc1, h', hv, hs⟩ := runs_opG hr h'
      obtain ⟨u, ws', ws2, acc2, G1, rfl, h', hm, _, _, hr1, hu, hn⟩ := runs_freeze hr hv hs h'
      split at h'
      · rename_i hfit
        obtain ⟨y, hy, h'⟩ := runs_opt h'
        obtain ⟨hsz, hlen⟩ := fitsV_iff hfit
        have hlv := leaves_rep hu hsz
        have hlvl := hlv.length
        have hyr := packAll_rep (C := C) hy hlv
        have hc : (a.eval x).cells.size = width e := by
          have : (a.eval x).cells.toList.length = (a.eval x).cells.size := Array.length_toList
          omega
        have hsp := splice_eq (cells := cells) (v := (a.eval x).cells) (off := n0 * width e) (by omega)
        have hspl : (cells.toList.take (n0 * width e) ++ (a.eval x).cells.toList ++ cells.toList.drop (n0 * width e + (a.eval x).cells.size)).toArray = spl cells (n0 * width e) (a.eval x).cells.toList := by
          simp [spl]
        have hin : n0 * width e + (a.eval x).cells.toList.length ≤ cells.size := by rw [Array.length_toList]; omega
        have hss : (spl cells (n0 * width e) (a.eval x).cells.toList).size = cells.size := spl_size hin
        obtain ⟨ys, ws3, ws4, acc3, G2, cells', rfl, h', hm2, hr2, hl, hfill, hcs, hlow, hx⟩ := ih (n0 + 1) (spl cells (n0 * width e) (a.eval x).cells.toList) hr1 (by rw [hss, Nat.add_right_comm, Nat.add_assoc]; exact hle) h'
        refine ⟨y :: ys, ws3 ++ ws', ws4, acc3, G2, cells', by simp, by rw [List.append_assoc]; exact h', hm.moves hm2, by rw [List.append_assoc]; exact hr2, by simp [hl], ?_, by rw [hcs, hss], fun j hj => ?_, fun j hj => ?_⟩
        · show Instr.fill place cells ((n0, a.eval x) :: opsV a ps) = _
          simp only [Instr.fill, hpl]
          rw [if_neg (by simp [hc]; omega)]
          rw [← hfill, ← hspl, ← hsp]
        · rw [hlow j (by rw [Nat.add_mul]; omega), spl_get hin, if_neg (by omega)]
        · cases j with
          | zero =>
            refine ⟨_, hyr.mono hm2.free, fun i v hi => ?_⟩
            have hi' : i < width e := by
              have := (List.getElem?_eq_some_iff.1 hi).1
              rw [Array.length_toList, hc] at this
              exact this
            simp only [Nat.add_zero]
            rw [hlow _ (by rw [Nat.add_mul]; omega), spl_get hin, if_pos (by rw [Array.length_toList]; omega), show n0 * width e + i - n0 * width e = i by omega]
            exact hi
          | succ j =>
            obtain ⟨vs, h1, h2⟩ := hx j (by simpa using hj)
            exact ⟨vs, h1, fun i v hi => by rw [show n0 + (j + 1) = n0 + 1 + j by omega]; exact h2 i v hi⟩
      · exact h'.elim
    · exact h'.elim
theorem ok_buildSlice (hT : TabOk P T) {t n : Nat} {parts : Array (Nat × Operand)} {own : Bool} (hd : ∀ d, dst = some d → d < N) : OpOk P C N rc i ⟨dst, .buildSlice t n parts, ty, pos, after, guard⟩
    (Prg.opt (T.get t) fun ti => (match ti.kind, ti.ty with
      | .sl et, .sl e => (match Nat.beq n parts.size, Nat.ble (n * width e) 16777216 with
        | true, true => elemsP e 0 parts.toList fun ys => putS ⟨dst, .buildSlice t n parts, ty, pos, after, guard⟩ own (rc, i, 0) e ys
        | _, _ => .fail)
      | _, _ => .fail)) := by
  intro G used st a w acc rs ws hr hf h K Q hK
  obtain ⟨ti, hti, h⟩ := runs_opt h
  split at h
  · rename_i et e hk hty
    obtain ⟨hu, hz⟩ := hT.sl hti hk
    obtain ⟨j, z, hj, hjs, _, hjz, hzc, _⟩ := zeroB_spec (hz e hty)
    split at h
    · rename_i hn hle
      obtain rfl := Nat.eq_of_beq_eq_true hn
      have hle := Nat.le_of_ble_eq_true hle
      have hcells : ((Array.range (parts.size * width e)).map (z.cells[· % z.cells.size]!)).size = parts.size * width e := by simp
      obtain ⟨ys, ws', ws2, acc', G1, cells', rfl, h, hm, hr1, hl, hfill, hcs, _, hx⟩ := elemsP_runs (place := fun i => some (i * width e, width e)) (fun _ => rfl) parts.toList 0 ((Array.range (parts.size * width e)).map (z.cells[· % z.cells.size]!)) hr (by rw [hcells]; simp) h
      obtain ⟨d, hdst, rfl⟩ := runs_putS h
      obtain rfl : dst = some d := hdst
      have hl' : ys.length = parts.size := by simpa using hl
      have hfill' : Instr.fill (fun i => some (i * width e, width e)) ((Array.range (parts.size * width e)).map (z.cells[· % z.cells.size]!)) (parts.map fun (p : Nat × Operand) => (p.1, a.eval p.2)).toList = some cells' := by
        rw [← hfill]; simp [opsV]
      rw [Array.toList_map] at hfill'
      have hp := Pushed.alloc w (.cells cells' et)
      obtain ⟨G', hfr, hrep⟩ := fin_newSlice (used' := usedAt used rc i) hr1 (hf 0) (fun _ h => .inl h) (.inr ⟨0, rfl⟩) (hd d rfl) hp (e := e) (ys := ys) (cap := ys.length) (Nat.le_refl _) (by rw [hcs, hcells, hl']; omega) (fun j hj => by
        obtain ⟨vs, h1, h2⟩ := hx j hj
        exact ⟨vs, h1, fun i v hi => by have := h2 i v hi; rwa [Nat.zero_add] at this⟩) own
      refine wp_value (v := .slice (some ⟨w.heap.size, 0, none⟩) ys.length ys.length) (w' := w.alloc (.cells cells' et)) ?_ (hK_step hm.fr hK _ _ _ hfr hrep)
      have hnl : ¬ (16777216 < parts.size * width e) := by omega
      have hnl' : ¬ (2 ^ 24 < parts.size * width e) := by simpa using hnl
      by_cases h0 : parts.size * width e = 0
      · have e0 : ((Array.range (parts.size * width e)).map (z.cells[· % z.cells.size]!)) = #[] := by rw [h0]; simp
        rw [e0] at hfill'
        have e1 : Array.map (fun (_ : Nat) => (default : Value)) (Array.range 0) = #[] := by simp
        simp only [execOp, Instr.buildSlice, Sem.run_bind, run_underlying hu, Result.andThen_ok]
        simp [sizeOf, typeInfo, hj, hjs, h0, newRow, hl']
        rw [e1, hfill']
        rfl
      · simp only [execOp, Instr.buildSlice, Sem.run_bind, run_underlying hu, Result.andThen_ok]
        simp [sizeOf, typeInfo, hj, hjs, zeroValue, hjz, hnl, hnl', h0, hfill', newRow, hl']
    · exact h.elim
  · exact h.elim
end
end Go.Proofs.Ytbgefphoochgcaa.FE
/- FE, part 18: make of slices; append. -/
namespace Go.Proofs.Ytbgefphoochgcaa.FE
open Go
set_option linter.unusedVariables false
set_option linter.unusedSimpArgs false
section
variable {Ω : Type} {C : CloRep Ω} {P : Program} {T : Tab} {N : Nat}
variable {rc i : Nat} {dst : Option Nat} {ty : Nat} {pos : String} {after : Array Edge} {guard : Option (Nat × Bool)}
variable {G : Ghost} {used used' : Id → Prop} {st ws : S Ω} {a : Act} {w w' : World} {acc rs : List Loc} {o : Oper} {K : Act → World → Prop} {Q : Exit → Act → World → Prop}

theorem runs_ite {b : Bool} {p q : Prg Ω} (h : (Prg.ite b p q).Runs st acc rs ws) : (b = true ∧ p.Runs st acc rs ws) ∨ (b = false ∧ q.Runs st acc rs ws) := by
  cases b with
  | true => exact .inl ⟨rfl, h⟩
  | false => exact .inr ⟨rfl, h⟩
theorem ok_makeSlice (hT : TabOk P T) {t : Nat} {l c : Operand} {own : Bool} (hd : ∀ d, dst = some d → d < N) : OpOk P C N rc i ⟨dst, .makeSlice t l c, ty, pos, after, guard⟩
    (Prg.opt (T.get t) fun ti => (match ti.kind, ti.ty with
      | .sl _, .sl e => opG l fun vl => intOf vl fun n => opG c fun vc => intOf vc fun m =>
          .ite (and (decide (0 ≤ n)) (and (decide (n ≤ m)) (limB m.toNat))) (putS ⟨dst, .makeSlice t l c, ty, pos, after, guard⟩ own (rc, i, 0) e (List.replicate n.toNat (zeroEl e))) .fail
      | _, _ => .fail)) := by
  intro G used st a w acc rs ws hr hf h K Q hK
  obtain ⟨ti, hti, h⟩ := runs_opt h
  split at h
  · rename_i et e hk hty
    obtain ⟨hu, hz⟩ := hT.sl hti hk
    obtain ⟨j, z, hj, hjs, hjb, hjz, hzc, _⟩ := zeroB_spec (hz e hty)
    obtain ⟨vl, acc1, h, hvl, -⟩ := runs_opG hr h
    obtain ⟨kl, n, rfl, h⟩ := intOf_runs h
    obtain ⟨vc, acc2, h, hvc, -⟩ := runs_opG hr h
    obtain ⟨kc, m, rfl, h⟩ := intOf_runs h
    have el := dat_int hvl
    have ec := dat_int hvc
    rcases runs_ite h with ⟨hb, h⟩ | ⟨_, h⟩
    · simp only [Bool.and_eq_true, decide_eq_true_eq, limB, LIM] at hb
      obtain ⟨h0, hnm, hm⟩ := hb
      have hm := of_decide_eq_true hm
      obtain ⟨d, hdst, rfl⟩ := runs_putS h
      obtain rfl : dst = some d := hdst
      have hbytes : (j.bytes : Int) * m ≤ 281474976710656 := by
        have h1 : j.bytes * m.toNat ≤ 2048 * 68719476736 := Nat.mul_le_mul hjb hm
        have h2 : (j.bytes : Int) * m = ((j.bytes * m.toNat : Nat) : Int) := by
          rw [Int.natCast_mul, Int.toNat_of_nonneg (by omega)]
        omega
      have hrun := run_make (P := P) w t et j z hu hj hjz kl kc n m h0 hnm hbytes (by omega)
      have hp := Pushed.alloc w (.cells (madeCells z.cells (m.toNat * j.size)) et)
      have hzs : z.cells.size = width e := by
        have := congrArg List.length hzc
        rw [Array.length_toList] at this
        rw [this, RepC_len (RepC_zero (w := w) (O := fun _ => False) e)]
      obtain ⟨G', hfr, hrep⟩ := fin_newSlice (used' := usedAt used rc i) hr (hf 0) (fun _ h => .inl h) (.inr ⟨0, rfl⟩) (hd d rfl) hp (e := e) (ys := List.replicate n.toNat (zeroEl e)) (cap := m.toNat) (by rw [List.length_replicate]; omega) (by rw [size_madeCells, hjs]; omega) (fun k hk => by
        refine ⟨zeroCells e, by rw [List.getElem_replicate]; exact RepC_zero e, fun i v hi => ?_⟩
        rw [List.length_replicate] at hk
        have hi' : i < width e := by
          have := (List.getElem?_eq_some_iff.1 hi).1
          rw [RepC_len (RepC_zero (w := w) (O := fun _ => False) e)] at this
          exact this
        have hlt : k * width e + i < m.toNat * j.size := by
          rw [hjs]
          have h1 : (k + 1) * width e ≤ m.toNat * width e := Nat.mul_le_mul_right _ (by omega)
          rw [Nat.add_mul, Nat.one_mul] at h1
          omega
        have hmod : (k * width e + i) % z.cells.size = i := by
          rw [hzs, Nat.mul_comm, Nat.mul_add_mod, Nat.mod_eq_of_lt hi']
        have hzi : z.cells[i]? = some v := by rw [← Array.getElem?_toList, hzc]; exact hi
        have hg : z.cells[i]! = v := by rw [getElem!_def, hzi]
        simp [madeCells, hlt, hmod, hg]) own
      rw [List.length_replicate] at hrep
      exact wp_value (by simp [execOp, el, ec, hrun]) (hK _ _ _ hfr hrep)
    · exact h.elim
  · exact h.elim

/-! ### append -/
theorem RepC_one {O : Nat → Prop} : ∀ {t : Ty} {x : El t} {u : List Value}, RepC w O t x u → ∀ v ∈ u, v.oneCell' = true := by
  intro t
  induction t with
  | pair a b ha hb =>
    rintro x u ⟨l, r, rfl, h1, h2⟩ v hv
    rcases List.mem_append.1 hv with hv | hv
    · exact ha h1 v hv
    · exact hb h2 v hv
  | st r ih => intro x u h v hv; exact ih h v hv
  | sl e _ => rintro x u ⟨ad, cap, rfl, _⟩ v hv; obtain rfl : v = _ := by simpa using hv
              rfl
  | mp k v _ _ => rintro x u ⟨r, rfl, _⟩ v hv; obtain rfl : v = _ := by simpa using hv
                  rfl
  | pt t _ =>
    rintro x u (⟨_, rfl⟩ | ⟨y, b, off, l, _, rfl, _⟩) v hv
    · obtain rfl : v = _ := by simpa using hv
      rfl
    · obtain rfl : v = _ := by simpa using hv
      rfl
  | unit => rintro x u rfl v hv; cases hv
  | _ => rintro x u rfl v hv; obtain rfl : v = _ := by simpa using hv
         rfl
/-- Cells in a row, for a list of elements. -/
structure Flat (w : World) (O : Nat → Prop) (e : Ty) (ys : List (El e)) (L : List Value) : Prop where
  len : L.length = ys.length * width e
  el : ∀ j (h : j < ys.length), ∃ vs, RepC w O e ys[j] vs ∧ ∀ i v, vs[i]? = some v → L[j * width e + i]? = some v
  one : ∀ v ∈ L, v.oneCell' = true
theorem Flat.mono {O O' : Nat → Prop} {e : Ty} {ys : List (El e)} {L : List Value} (h : Flat w O e ys L) (hf : Free w O w' O') : Flat w' O' e ys L :=
  ⟨h.len, fun j hj => let ⟨vs, h1, h2⟩ := h.el j hj; ⟨vs, h1.mono hf, h2⟩, h.one⟩
theorem Flat.append {O : Nat → Prop} {e : Ty} {xs ys : List (El e)} {L M : List Value} (h : Flat w O e xs L) (k : Flat w O e ys M) : Flat w O e (xs ++ ys) (L ++ M) where
  len := by rw [List.length_append, List.length_append, h.len, k.len, Nat.add_mul]
  el j hj := by
    rw [List.length_append] at hj
    by_cases hx : j < xs.length
    · obtain ⟨vs, h1, h2⟩ := h.el j hx
      refine ⟨vs, by rw [List.getElem_append_left hx]; exact h1, fun i v hi => ?_⟩
      have := h2 i v hi
      rw [List.getElem?_append_left (List.getElem?_eq_some_iff.1 this).1]
      exact this
    · obtain ⟨vs, h1, h2⟩ := k.el (j - xs.length) (by omega)
      refine ⟨vs, by rw [List.getElem_append_right (by omega)]; exact h1, fun i v hi => ?_⟩
      have := h2 i v hi
      have e1 : j * width e = xs.length * width e + (j - xs.length) * width e := by
        rw [← Nat.add_mul]; congr 1; omega
      rw [List.getElem?_append_right (by rw [h.len]; omega), h.len, show j * width e + i - xs.length * width e = (j - xs.length) * width e + i by omega]
      exact this
  one v hv := by
    rcases List.mem_append.1 hv with h' | h'
    · exact h.one v h'
    · exact k.one v h'
theorem flat_of {O : Nat → Prop} {e : Ty} (f : Nat → Option Value) : ∀ (ys : List (El e)) (off : Nat), (∀ j (h : j < ys.length), ∃ l, RepC w O e ys[j] l ∧ ∀ i v, l[i]? = some v → f (off + j * width e + i) = some v) →
    ∃ L, Flat w O e ys L ∧ ∀ i v, L[i]? = some v → f (off + i) = some v
  | [], off, _ => ⟨[], ⟨by simp, fun j hj => by simp at hj, fun v hv => by cases hv⟩, fun i v hi => by simp at hi⟩
  | y :: ys, off, h => by
    obtain ⟨l, h1, h2⟩ := h 0 (by simp)
    obtain ⟨L, h3, h4⟩ := flat_of f ys (off + width e) (fun j hj => by
      obtain ⟨l, h1, h2⟩ := h (j + 1) (by simp; omega)
      exact ⟨l, h1, fun i v hi => by have := h2 i v hi; rwa [Nat.add_mul, Nat.one_mul, show off + (j * width e + width e) + i = off + width e + j * width e + i by omega] at this⟩)
    have hl := RepC_len h1
    have hy : Flat w O e [y] l := ⟨by simp [hl], fun j hj => by
      obtain rfl : j = 0 := by simpa using hj
      exact ⟨l, h1, fun i v hi => by simpa using hi⟩, RepC_one h1⟩
    refine ⟨l ++ L, hy.append h3, fun i v hi => ?_⟩
    by_cases hil : i < l.length
    · rw [List.getElem?_append_left hil] at hi
      have := h2 i v hi
      simpa using this
    · rw [List.getElem?_append_right (by omega)] at hi
      have := h4 _ v hi
      rwa [hl, show off + width e + (i - width e) = off + i by omega] at this
/-- A slice that is read: its cells. -/
def SlCells (w : World) (O : Nat → Prop) (e : Ty) (ys : List (El e)) (u : Value) : Prop :=
  ∃ ad cap L, u = .slice ad ys.length cap ∧ Flat w O e ys L ∧ (ys ≠ [] → ∃ b off, ad = some ⟨b, off, none⟩ ∧ ∀ i v, L[i]? = some v → w.cell? ⟨b, off + i, none⟩ = some v)
theorem SlCells.of {O : Nat → Prop} {e : Ty} {ys : List (El e)} {u : Value} (h : RepC w O (.sl e) ys [u]) : SlCells w O e ys u := by
  obtain ⟨ad, cap, e1, hc, hx⟩ := h
  obtain rfl := (List.cons.inj e1).1
  by_cases hn : ys = []
  · subst hn
    exact ⟨ad, cap, [], rfl, ⟨by simp, fun j hj => by simp at hj, fun v hv => by cases hv⟩, fun h => absurd rfl h⟩
  · obtain ⟨b, off, rfl, _, hx⟩ := hx hn
    obtain ⟨L, h1, h2⟩ := flat_of (w := w) (O := O) (fun i => w.cell? ⟨b, i, none⟩) ys off (fun j hj => by
      obtain ⟨l, h1, h2⟩ := hx j hj
      exact ⟨l, h1, fun i v hi => h2.cell hi⟩)
    exact ⟨_, cap, L, rfl, h1, fun _ => ⟨b, off, rfl, h2⟩⟩
theorem ArrRep.cells {ρ : Nat → Option Own} {ow : Own} {e : Ty} {ys : List (El e)} {u : Value} (h : ArrRep ρ w ow e ys u) : SlCells w (Ow ρ) e ys u := by
  rcases h with ⟨rfl, rfl⟩ | ⟨b, off, cap, c, el, rfl, hc, _, hh, hsz, hx⟩
  · exact ⟨none, 0, [], rfl, ⟨by simp, fun j hj => by simp at hj, fun v hv => by cases hv⟩, fun h => absurd rfl h⟩
  · obtain ⟨L, h1, h2⟩ := flat_of (w := w) (O := Ow ρ) (fun i => w.cell? ⟨b, i, none⟩) ys off (fun j hj => by
      obtain ⟨l, h1, h2⟩ := hx j hj
      exact ⟨l, h1, fun i v hi => by have := h2 i v hi; simp [World.cell?, hh, this]⟩)
    exact ⟨_, cap, L, rfl, h1, fun _ => ⟨b, off, rfl, h2⟩⟩
theorem SlCells.mono {O O' : Nat → Prop} {e : Ty} {ys : List (El e)} {u : Value} (h : SlCells w O e ys u) (hf : Free w O w O') : SlCells w O' e ys u := by
  obtain ⟨ad, cap, L, h1, h2, h3⟩ := h
  exact ⟨ad, cap, L, h1, h2.mono hf, h3⟩
theorem runs_borrowSl (hr : Rep C G N used st a w) {o : Operand} {v : AV Ω} {x : Value} (hv : RepAV C G w (opLoc o) v x)
    {f : AV Ω → Prg Ω} {acc rs : List Loc} {ws : List (Loc × AV Ω)} (h : (borrow v f).Runs st acc rs ws) :
    ∃ u acc', (f u).Runs st acc' rs ws ∧ (∀ e ys, u = .one (.dat (.sl e) ys) → SlCells w G.O e ys x) := by
  cases v with
  | agg ls => exact ⟨_, _, h, (fun _ _ e => by cases e)⟩
  | tup ps => exact ⟨_, _, h, (fun _ _ e => by cases e)⟩
  | one lf =>
    cases lf with
    | ali l id =>
      have h' : Prg.Runs st (match st.get l with
        | .one (.arr id' e xs) => (match idB id id' with | true => f (.one (.dat (.sl e) xs)) | false => .fail)
        | .one (.omp id' a b m) => (match idB id id' with | true => f (.one (.dat (.mp a b) m)) | false => .fail)
        | _ => .fail) (l :: acc) rs ws := h
      split at h'
      · rename_i id' e xs hl
        split at h'
        · rename_i hid'
          refine ⟨_, _, h', fun e' ys' e1 => ?_⟩
          cases e1
          exact (ali_arr hr hv.1 hl hid').cells
        · exact h'.elim
      · split at h'
        · exact ⟨_, _, h', (fun _ _ e => by cases e)⟩
        · exact h'.elim
      · exact h'.elim
    | avw l id sz lo hi =>
      have h' : Prg.Runs st (match st.get l with
        | .one (.arr id' e xs) => (match and (idB id id') (Nat.beq sz (width e)) with | true => .bind (cut xs lo hi) fun ys => f (.one (.dat (.sl e) ys)) | false => .fail)
        | _ => .fail) (l :: acc) rs ws := h
      split at h'
      · rename_i id' e xs hl
        split at h'
        · rename_i hid'
          rw [Bool.and_eq_true] at hid'
          obtain rfl := Nat.eq_of_beq_eq_true hid'.2
          obtain ⟨ys, hc, h'⟩ := h'
          obtain ⟨ad, len, cap, hΓ, _, _, _, _, rfl⟩ := avw_inv (C := C) (w := w) (l := l) hv
          refine ⟨_, _, h', fun e' ys' e1 => ?_⟩
          cases e1
          exact ((ali_arr hr hΓ hl hid'.1).cut hc).cells
        · exact h'.elim
      · exact h'.elim
    | arr id e xs =>
      obtain ⟨l2, e1, hΓ, ha⟩ := hv
      refine ⟨_, _, h, fun e' ys' e1 => ?_⟩
      cases e1
      exact ha.cells
    | omp id k v m => exact ⟨_, _, h, (fun _ _ e => by cases e)⟩
    | dat t x =>
      refine ⟨_, _, h, fun e' ys' e1 => ?_⟩
      cases e1
      exact SlCells.of hv
    | _ => exact ⟨_, _, h, (fun _ _ e => by cases e)⟩
/-- The new cells, as append reads them. -/
theorem SlCells.first {O : Nat → Prop} {e : Ty} {ys : List (El e)} {u : Value} (h : SlCells w O e ys u) : ∃ ad cap L, u = .slice ad ys.length cap ∧ Flat w O e ys L ∧ (ad = none → ys = []) ∧
    (Builtin.firstCells (width e) ys.length u).run P w = .ok L.toArray w ∧ (Builtin.firstCells (width e) ys.length u).run P w.drew = .ok L.toArray w.drew := by
  obtain ⟨ad, cap, L, rfl, hL, hx⟩ := h
  by_cases hn : ys = []
  · subst hn
    have hL0 : L = [] := by
      have := hL.len
      simpa using this
    subst hL0
    refine ⟨ad, cap, [], rfl, hL, fun _ => rfl, ?_, ?_⟩ <;>
    · cases ad with
      | none => exact run_firstCells_none _ _ _ _ _
      | some b => exact run_firstCells_some _ _ _ b _ _ [] (by simp) (fun j v h => by simp at h)
  · obtain ⟨b, off, rfl, hc⟩ := hx hn
    refine ⟨_, cap, L, rfl, hL, fun h => (by cases h), run_firstCells_some _ _ _ _ _ _ L hL.len (fun j v h => by rw [add_none]; exact hc j v h), run_firstCells_some _ _ _ _ _ _ L hL.len (fun j v h => by rw [add_none]; exact hc j v h)⟩
section
variable {t et : Nat} {j : TypeInfo} {z : Value}
theorem run_append_old (hu : P.underlying t = some (.slice et)) (hj : P.info? et = some j) {x : Value} {m c : Nat} {ad : Option Addr} (hx : x = .slice ad m c) {L : List Value} (hf : (Builtin.firstCells j.size m x).run P w = .ok L.toArray w)
    {b off len cap el : Nat} {cur : Array Value} (hg : w.heap[b]? = some (.cells cur el (0, 0))) (hroom : len + m ≤ cap) (hfit : off + len * j.size + L.length ≤ cur.size) (h1 : ∀ v ∈ L, v.oneCell' = true) :
    (Builtin.append_ #[t, t] ty #[.slice (some ⟨b, off, none⟩) len cap, x]).run P w = .ok (.slice (some ⟨b, off, none⟩) (len + m) cap) (w.setRow b (spl cur (off + len * j.size) L)) := by
  have hst := run_storeCells (P := P) (off := off + len * j.size) L 0 cur w hg (by omega) h1
  subst hx
  simp [Builtin.append_, run_underlying hu, sizeOf, typeInfo, hj, Builtin.lenOf, hroom, hf, add_none, hst]
theorem run_append_none (hu : P.underlying t = some (.slice et)) (hj : P.info? et = some j) {x : Value} {c : Nat} {ad : Option Addr} (hx : x = .slice ad 0 c) {L : List Value} (hf : (Builtin.firstCells j.size 0 x).run P w = .ok L.toArray w) :
    (Builtin.append_ #[t, t] ty #[.slice none 0 0, x]).run P w = .ok (.slice none 0 0) w := by
  subst hx
  simp [Builtin.append_, run_underlying hu, sizeOf, typeInfo, hj, Builtin.lenOf, hf]
theorem run_append_new (hu : P.underlying t = some (.slice et)) (hj : P.info? et = some j) (hz : j.zero = some z) {x s : Value} {m c len cap : Nat} {ad bd : Option Addr} (hx : x = .slice ad m c) (hs : s = .slice bd len cap) {L M : List Value}
    (hf : (Builtin.firstCells j.size m x).run P w.drew = .ok L.toArray w.drew) (hfo : (Builtin.firstCells j.size len s).run P w.drew = .ok M.toArray w.drew)
    (hg : cap < len + m) (hlim : len + m ≤ 68719476736) (hb : j.bytes ≤ 2048) :
    (Builtin.append_ #[t, t] ty #[s, x]).run P w = .ok (.slice (some ⟨w.heap.size, 0, none⟩) (len + m) (grownCap w (len + m) cap et))
      (w.drew.alloc (.cells (M.toArray ++ L.toArray ++ Builtin.zeroCells z.cells (grownCap w (len + m) cap et - (len + m))) et)) := by
  have hn : ¬ (len + m ≤ cap) := by omega
  have hbb : (len + m) * j.bytes ≤ 140737488355328 := by
    have := Nat.mul_le_mul hlim hb
    omega
  have h63' : ¬ (9223372036854775807 < ((len : Int) + (m : Int))) := by omega
  have hfit := growslice_fits hg hbb
  have h48' : ¬ (281474976710656 < Builtin.nextslicecap (len + m) cap * j.bytes) := by omega
  subst hx hs
  simp [Builtin.append_, run_underlying hu, sizeOf, typeInfo, zeroValue, hj, hz, Builtin.lenOf, hn, h63', h48', Question.forced, hf, hfo, newRow, grownCap]
  congr 2
  apply Array.ext'
  simp
end
/-- The value of an operation's owned slice where its row is written. -/
theorem fin_oldSlice (hr : Rep C G N used st a w) (hf : ¬ used (rc, i, 0)) (hu : ∀ x, used x → used' x) (hi : used' (rc, i, 0)) {d : Nat} (hd : d < N) {e : Ty} {xs ys : List (El e)} {b off cap el : Nat} {c : Array Value} {L : List Value} (hcap : xs.length + ys.length ≤ cap) (hρ : G.ρ b = some (.at_ (.tmp d)))
    (hh : w.heap[b]? = some (.cells c el (0, 0))) (hsz : off + cap * width e ≤ c.size) (hx : ∀ j (h : j < xs.length), ∃ vs, RepC w (Ow G.ρ) e xs[j] vs ∧ ∀ i v, vs[i]? = some v → c[off + j * width e + i]? = some v) (hL : Flat w G.O e ys L) (own : Bool) :
    ∃ G', Fr G.ρ w G'.ρ (w.setRow b (spl c (off + xs.length * width e) L)) ∧ Rep C G' N used' ([(.tmp d, slV own (rc, i, 0) e (xs ++ ys))] ++ st) (a.put (some d) (.slice (some ⟨b, off, none⟩) (xs.length + ys.length) cap)) (w.setRow b (spl c (off + xs.length * width e) L)) := by
  have hle : (xs.length + ys.length) * width e ≤ cap * width e := Nat.mul_le_mul_right _ hcap
  rw [Nat.add_mul] at hle
  have hin : off + xs.length * width e + L.length ≤ c.size := by rw [hL.len]; omega
  have hss := spl_size hin
  have h1 := hr.name hf (.slice (some ⟨b, off, none⟩) (xs.length + ys.length) cap) [] hu hi
  have hs1 := fun L' h => setRow_step (L := L') h1 (ow := .at_ (.tmp d)) hρ hh hss (fun l e => by cases e; exact h) (fun id e => by cases e) (by simp) (by simp)
  have hd' : d < a.tmps.size := by rw [hr.size]; exact hd
  have hrep : Rep C (G.name (rc, i, 0) (.slice (some ⟨b, off, none⟩) (xs.length + ys.length) cap) []) N used' ([(.tmp d, .one (.arr (rc, i, 0) e (xs ++ ys)))] ++ st) (a.put (some d) (.slice (some ⟨b, off, none⟩) (xs.length + ys.length) cap)) (w.setRow b (spl c (off + xs.length * width e) L)) := by
    refine Rep.step (ws := [(.tmp d, .one (.arr (rc, i, 0) e (xs ++ ys)))]) h1 (hs1 _ (by simp [inL, locB_self])) (fun l hl => ?_) (fun t ht => ?_) (put_size.trans hr.size) (put_defers.trans hr.defers) (fun _ _ _ h => .inl h) h1.usedΓ h1.usedβ
    · have : l = .tmp d := by simpa [inL_iff] using hl
      subst this
      show RepAV C _ _ _ (S.get [(Loc.tmp d, _)] (.tmp d)) ((a.put (some d) _).tmps.getD d undef)
      rw [getD_put hd']
      have e0 : S.get [(Loc.tmp d, AV.one (Leaf.arr (Ω := Ω) (rc, i, 0) e (xs ++ ys)))] (.tmp d) = .one (.arr (rc, i, 0) e (xs ++ ys)) := by simp [S.get, locB_self]
      rw [e0]
      refine ⟨_, rfl, ⟨[], name_at⟩, .inr ⟨b, off, cap, _, el, by rw [List.length_append], by rw [List.length_append]; exact hcap, hρ, setRow_heap w b _ _ _ _ hh, by rw [hss]; exact hsz, fun j hj => ?_⟩⟩
      have hfree := (hs1 (fun _ => True) trivial).free
      by_cases hjx : j < xs.length
      · obtain ⟨vs, k1, k2⟩ := hx j hjx
        refine ⟨vs, by rw [List.getElem_append_left hjx]; exact k1.mono hfree, fun i v hi => ?_⟩
        have hiw : i < width e := by
          have := (List.getElem?_eq_some_iff.1 hi).1
          rwa [RepC_len k1] at this
        have hjw : (j + 1) * width e ≤ xs.length * width e := Nat.mul_le_mul_right _ hjx
        rw [Nat.add_mul, Nat.one_mul] at hjw
        rw [spl_get hin, if_neg (by omega)]
        exact k2 i v hi
      · rw [List.length_append] at hj
        obtain ⟨vs, k1, k2⟩ := hL.el (j - xs.length) (by omega)
        refine ⟨vs, by rw [List.getElem_append_right (by omega)]; exact k1.mono hfree, fun i v hi => ?_⟩
        have hk := k2 i v hi
        have hlt := (List.getElem?_eq_some_iff.1 hk).1
        have e1 : j * width e = xs.length * width e + (j - xs.length) * width e := by
          rw [← Nat.add_mul]; congr 1; omega
        rw [spl_get hin, if_pos (by omega), show off + j * width e + i - (off + xs.length * width e) = (j - xs.length) * width e + i by omega]
        exact hk
    · refine getD_put_ne fun e => ?_
      subst e
      simp [inL, locB_self] at ht
  obtain ⟨G', k1, k2⟩ := hrep.ownOr own
  exact ⟨G', ((name_step hr hf _ [] (fun _ => True)).fr.trans (hs1 (fun _ => True) trivial).fr).trans k1, k2⟩
def dstLoc (d : Option Nat) : Loc := match d with | some d => .tmp d | none => .om
theorem ok_append (hT : TabOk P T) {c : Call} (hc : c.callee = .builtin .append) {own : Bool} (hd : ∀ d, dst = some d → d < N) : OpOk P C N rc i ⟨dst, .call c, ty, pos, after, guard⟩
    (match c.args.toList, c.argTypes.toList with
      | [x, y], [t, t'] => Prg.opt (T.get t) fun ti => opG x fun v => opG y fun w => borrow w fun u => (match ti.kind, ti.ty, u with
        | .sl _, .sl E, .one (.dat (.sl e) ys) => (match and (Nat.beq t t') (Nat.beq (width E) (width e)) with
          | true => takeV x (rc, i, 1) v fun a => (match a with
            | .one .nilS => .ite (limB ys.length) (putS ⟨dst, .call c, ty, pos, after, guard⟩ own (rc, i, 0) e ys) .fail
            | .one (.arr _ e' xs) => Prg.opt (cast? (.sl e') (.sl e) xs) fun xs' => .ite (limB (xs'.length + ys.length)) (putS ⟨dst, .call c, ty, pos, after, guard⟩ own (rc, i, 0) e (xs' ++ ys)) .fail
            | _ => .fail)
          | false => .fail)
        | _, _, _ => .fail)
      | _, _ => .fail) := by
  intro G used st a w acc rs ws hr hf h K Q hK
  split at h
  · rename_i x y t t' ha ht
    obtain ⟨ti, hti, h⟩ := runs_opt h
    obtain ⟨v, acc1, h, hv, hs⟩ := runs_opG hr h
    obtain ⟨v2, acc2, h, hv2, -⟩ := runs_opG hr h
    obtain ⟨u, acc3, h, hu⟩ := runs_borrowSl hr hv2 h
    cases hk : ti.kind with
    | sl et =>
      cases hty : ti.ty with
      | sl E =>
        cases u with
        | one lf =>
          cases lf with
          | dat tt ys =>
            cases tt with
            | sl e =>
              simp only [hk, hty] at h
              split at h
              · rename_i hb
                rw [Bool.and_eq_true] at hb
                have hq := h
                clear h
                obtain rfl := Nat.eq_of_beq_eq_true hb.1
                have hw := Nat.eq_of_beq_eq_true hb.2
                obtain ⟨hul, hz⟩ := hT.sl hti hk
                obtain ⟨j, z, hj, hjs, hjb, hjz, hzc, _⟩ := zeroB_spec (hz E hty)
                have hjw : j.size = width e := by rw [hjs, hw]
                have hy := hu _ _ rfl
                obtain ⟨av, ws', ws2, acc', G1, rfl, h, hm, hβ, hr1, hav⟩ := runs_take hr hv hs (dstLoc dst) (hf 1) (used' := fun id => used id ∨ id = (rc, i, 1)) (fun _ h => .inl h) (.inr rfl) hq
                have hy1 := hy.mono hm.free
                have hun : ¬ (fun id => used id ∨ id = (rc, i, 1)) (rc, i, 0) := by
                  rintro (h | h)
                  · exact hf 0 h
                  · simp at h
                have hup : ∀ x, (fun id => used id ∨ id = (rc, i, 1)) x → usedAt used rc i x := by
                  rintro x (h | rfl)
                  · exact .inl h
                  · exact .inr ⟨1, rfl⟩
                have hat : c.argTypes = #[t, t] := toList_two ht
                have hargs : c.args.map a.eval = #[a.eval x, a.eval y] := map_two ha
                have fin : ∀ (xs : List (El e)) (acc : List Loc), ArrRep G1.ρ w (.at_ (dstLoc dst)) e xs (a.eval x) → limB (xs.length + ys.length) = true →
                    (putS ⟨dst, .call c, ty, pos, after, guard⟩ own (rc, i, 0) e (xs ++ ys)).Runs (ws' ++ st) acc rs ws2 → (⟨dst, .call c, ty, pos, after, guard⟩ : Oper).wp P a w K Q := by
                  intro xs acc hax hlim hp
                  have hlim := of_decide_eq_true hlim
                  simp only [LIM] at hlim
                  obtain ⟨d, hdst, rfl⟩ := runs_putS hp
                  obtain rfl : dst = some d := hdst
                  obtain ⟨ad, cap, L, ey, hL, had, hf1, hf2⟩ := hy1.first
                  have new : ∀ {bd : Option Addr} {capx : Nat} {M : List Value}, a.eval x = .slice bd xs.length capx → Flat w G1.O e xs M → (Builtin.firstCells (width e) xs.length (a.eval x)).run P w.drew = .ok M.toArray w.drew → capx < xs.length + ys.length → (⟨some d, .call c, ty, pos, after, guard⟩ : Oper).wp P a w K Q := by
                    intro bd capx M ex hM hfo hg
                    have hrun := run_append_new (P := P) (ty := ty) hul hj hjz ey ex (by rw [hjw]; exact hf2) (by rw [hjw]; exact hfo) hg hlim hjb
                    have hML := hM.append hL
                    have hge := grownCap_ge w (xs.length + ys.length) capx et
                    have hzs : z.cells.size = width e := by
                      have := congrArg List.length hzc
                      rw [Array.length_toList] at this
                      rw [this, RepC_len (RepC_zero (w := w) (O := fun _ => False) E), hw]
                    obtain ⟨G', hfr, hrep⟩ := fin_newSlice hr1 hun hup (.inr ⟨0, rfl⟩) (hd d rfl) (Pushed.drewAlloc w _) (e := e) (ys := xs ++ ys) (c := M.toArray ++ L.toArray ++ Builtin.zeroCells z.cells (grownCap w (xs.length + ys.length) capx et - (xs.length + ys.length))) (el := et) (cap := grownCap w (xs.length + ys.length) capx et) (by rw [List.length_append]; exact hge)
                      (by
                        rw [Array.size_append, Array.size_append, List.size_toArray, List.size_toArray, size_zeroCells, hM.len, hL.len, hzs, ← Nat.add_mul, ← Nat.add_mul]
                        exact Nat.mul_le_mul_right _ (by omega))
                      (fun k hk => by
                        obtain ⟨vs, k1, k2⟩ := hML.el k hk
                        refine ⟨vs, k1, fun i v hi => ?_⟩
                        have h3 := k2 i v hi
                        have h4 := (List.getElem?_eq_some_iff.1 h3).1
                        have hMt : M.toArray ++ L.toArray = (M ++ L).toArray := by simp
                        rw [hMt, Array.getElem?_append_left (by rw [List.size_toArray]; exact h4), List.getElem?_toArray]
                        exact h3) own
                    rw [List.length_append] at hrep
                    exact wp_value (run_builtin hc hargs fun consts => by simp [Go.builtin, hat, hrun]) (hK_step hm.fr hK _ _ _ hfr hrep)
                  rcases hax with ⟨rfl, ex⟩ | ⟨b, off, capx, cur, el, ex, hcap, hρ, hh, hsz, hx⟩
                  · by_cases hn : ys = []
                    · subst hn
                      obtain ⟨G', hfr, hrep⟩ := fin_nilSlice hr1 hun hup (.inr ⟨0, rfl⟩) (hd d rfl) (e := e) own
                      have hrun := run_append_none (P := P) (ty := ty) hul hj ey (by rw [hjw]; exact hf1)
                      exact wp_value (run_builtin hc hargs fun consts => by simp [Go.builtin, hat, ex, hrun]) (hK_step hm.fr hK _ _ _ hfr hrep)
                    · have h0 : ys.length ≠ 0 := fun h => hn (List.length_eq_zero_iff.1 h)
                      exact new (M := []) ex ⟨by simp, fun j hj => by simp at hj, fun v hv => by cases hv⟩ (by rw [ex]; exact run_firstCells_none _ _ _ _ _) (by simp only [List.length_nil]; omega)
                  · by_cases hroom : xs.length + ys.length ≤ capx
                    · obtain ⟨G', hfr, hrep⟩ := fin_oldSlice hr1 hun hup (.inr ⟨0, rfl⟩) (hd d rfl) hroom hρ hh hsz hx hL own
                      have hle : (xs.length + ys.length) * width e ≤ capx * width e := Nat.mul_le_mul_right _ hroom
                      rw [Nat.add_mul] at hle
                      have hrun := run_append_old (P := P) (ty := ty) (off := off) hul hj ey (by rw [hjw]; exact hf1) hh hroom (by rw [hjw, hL.len]; omega) hL.one
                      rw [hjw] at hrun
                      exact wp_value (run_builtin hc hargs fun consts => by simp [Go.builtin, hat, ex, hrun]) (hK_step hm.fr hK _ _ _ hfr hrep)
                    · have hxs : SlCells w G1.O e xs (a.eval x) := ArrRep.cells (.inr ⟨b, off, capx, cur, el, ex, hcap, hρ, hh, hsz, hx⟩)
                      obtain ⟨ad', cap', M, ex', hM, _, _, hf4⟩ := hxs.first
                      exact new ex hM hf4 (by omega)
                split at h
                · rcases runs_ite h with ⟨hb, h⟩ | ⟨_, h⟩
                  · have ex : a.eval x = .slice none 0 0 := hav
                    exact fin [] _ (.inl ⟨rfl, ex⟩) (by rw [List.length_nil, Nat.zero_add]; exact hb) h
                  · exact h.elim
                · obtain ⟨xs', hcx, h⟩ := runs_opt h
                  obtain ⟨ee, rfl⟩ := cast_eq hcx
                  cases ee
                  rcases runs_ite h with ⟨hb, h⟩ | ⟨_, h⟩
                  · obtain ⟨l, el, _, hax⟩ := hav
                    cases el
                    exact fin _ _ hax hb h
                  · exact h.elim
                · exact h.elim
              · exact h.elim
            | _ => simp only [hk, hty] at h; exact h.elim
          | _ => simp only [hk, hty] at h; exact h.elim
        | _ => simp only [hk, hty] at h; exact h.elim
      | _ => simp only [hk, hty] at h; exact h.elim
    | _ => simp only [hk] at h; exact h.elim
  · exact h.elim
end
end Go.Proofs.Ytbgefphoochgcaa.FE
/- FE, part 18b: clear. -/
namespace Go.Proofs.Ytbgefphoochgcaa.FE
open Go
set_option linter.unusedVariables false
set_option linter.unusedSimpArgs false
section
variable {Ω : Type} {C : CloRep Ω} {P : Program} {T : Tab} {N : Nat}
variable {rc i : Nat} {dst : Option Nat} {ty : Nat} {pos : String} {after : Array Edge} {guard : Option (Nat × Bool)}
variable {G : Ghost} {used used' : Id → Prop} {st ws : S Ω} {a : Act} {w w' : World} {acc rs : List Loc} {o : Oper} {K : Act → World → Prop} {Q : Exit → Act → World → Prop}
/-- Several elements are stored into an owned slice, in a row. -/
theorem Rep.storeRun (hr : Rep C G N used st a w) {l : Loc} {id : Id} {e : Ty} {xs : List (El e)} (hl : st.get l = .one (.arr id e xs)) {b o len cap : Nat} {bs : List Nat} {k : Nat} (hΓ : G.Γ id = some (.slice (some ⟨b, o, none⟩) len cap, bs))
    {ys : List (El e)} {L : List Value} (hk : k + ys.length ≤ xs.length) (hne : ys ≠ []) (hf : Flat w G.O e ys L) :
    ∃ c el, w.heap[b]? = some (.cells c el (0, 0)) ∧ o + k * width e + L.length ≤ c.size ∧ Fr G.ρ w G.ρ (w.setRow b (spl c (o + k * width e) L)) ∧
      Rep C G N used ([(l, .one (.arr id e (xs.take k ++ ys ++ xs.drop (k + ys.length))))] ++ st) a (w.setRow b (spl c (o + k * width e) L)) := by
  have hpos : 0 < ys.length := List.length_pos_iff.2 hne
  have ha := ali_arr hr ⟨bs, hΓ⟩ hl (idB_iff.2 rfl)
  rcases ha with ⟨rfl, _⟩ | ⟨b2, o2, cap2, c, el, ev, hcap, hρ, hh, hsz, hx⟩
  · have : ys.length ≤ 0 := by simpa using Nat.le_trans (Nat.le_add_left _ _) hk
    omega
  cases ev
  have hkw : k * width e + ys.length * width e ≤ cap * width e := by
    have : (k + ys.length) * width e ≤ cap * width e := Nat.mul_le_mul_right _ (by omega)
    rw [Nat.add_mul] at this; omega
  have hin : o + k * width e + L.length ≤ c.size := by rw [hf.len]; omega
  have hs1 := setRow_step hr hρ hh (spl_size hin) (L := fun l' => inL l' [l] = true) (fun l' h => by cases h; simp [inL, locB_self]) (fun id' h => by cases h) (by simp) (by simp)
  refine ⟨c, el, hh, hin, hs1.fr, ?_⟩
  refine Rep.step (ws := [(l, .one (.arr id e (xs.take k ++ ys ++ xs.drop (k + ys.length))))]) hr hs1 (fun l' hl' => ?_) (fun _ _ => rfl) hr.size hr.defers (fun _ _ _ h => .inl h) hr.usedΓ hr.usedβ
  obtain rfl : l' = l := by simpa [inL_iff] using hl'
  have hg : S.get [(l', AV.one (Leaf.arr (Ω := Ω) id e (xs.take k ++ ys ++ xs.drop (k + ys.length))))] l' = .one (.arr id e (xs.take k ++ ys ++ xs.drop (k + ys.length))) := by simp [S.get, locB_self]
  rw [hg]
  have hat := hr.at_ l'
  rw [hl] at hat
  have hlen : (xs.take k ++ ys ++ xs.drop (k + ys.length)).length = xs.length := by simp; omega
  have key : ∀ v, RepL C G w (some l') (.arr id e xs) v → RepL C G (w.setRow b (spl c (o + k * width e) L)) (some l') (.arr id e (xs.take k ++ ys ++ xs.drop (k + ys.length))) v := by
    rintro v ⟨l2, e0, ⟨bs', hΓ'⟩, _⟩
    cases e0
    rw [hΓ] at hΓ'
    cases hΓ'
    refine ⟨_, rfl, ⟨bs, hΓ⟩, .inr ⟨b, o, cap, _, el, by rw [hlen], by rw [hlen]; exact hcap, hρ, setRow_heap w b _ _ _ _ hh, by rw [spl_size hin]; exact hsz, fun j hj => ?_⟩⟩
    have hj' : j < xs.length := by rw [← hlen]; exact hj
    have out : ∀ us : List Value, us.length = width e → (j < k ∨ k + ys.length ≤ j) → (∀ i v, us[i]? = some v → c[o + j * width e + i]? = some v) → ∀ i v, us[i]? = some v → (spl c (o + k * width e) L)[o + j * width e + i]? = some v := by
      intro us hus hjk hau i v hi
      have hi' : i < width e := by rw [← hus]; exact (List.getElem?_eq_some_iff.1 hi).1
      rw [spl_get hin, if_neg]
      · exact hau i v hi
      · rintro ⟨h1, h2⟩
        rw [hf.len] at h2
        rcases hjk with h | h
        · have : (j + 1) * width e ≤ k * width e := Nat.mul_le_mul_right _ h
          rw [Nat.add_mul] at this
          omega
        · have : (k + ys.length) * width e ≤ j * width e := Nat.mul_le_mul_right _ h
          rw [Nat.add_mul] at this
          omega
    by_cases h1 : j < k
    · obtain ⟨us, hru, hau⟩ := hx j hj'
      refine ⟨us, ?_, out us (RepC_len hru) (.inl h1) hau⟩
      have : (xs.take k ++ ys ++ xs.drop (k + ys.length))[j] = xs[j] := by
        rw [List.getElem_append_left (by simp; omega), List.getElem_append_left (by simp; omega), List.getElem_take]
      rw [this]
      exact hru.mono hs1.free
    · by_cases h2 : j < k + ys.length
      · obtain ⟨us, hru, hau⟩ := hf.el (j - k) (by omega)
        refine ⟨us, ?_, fun i v hi => ?_⟩
        · have : (xs.take k ++ ys ++ xs.drop (k + ys.length))[j] = ys[j - k] := by
            rw [List.getElem_append_left (by simp; omega), List.getElem_append_right (by simp; omega)]
            congr 1
            simp; omega
          rw [this]
          exact hru.mono hs1.free
        · have hi' : i < width e := by rw [← RepC_len hru]; exact (List.getElem?_eq_some_iff.1 hi).1
          have hv := hau i v hi
          have e1 : j * width e = k * width e + (j - k) * width e := by rw [← Nat.add_mul]; congr 1; omega
          have hlt := (List.getElem?_eq_some_iff.1 hv).1
          rw [spl_get hin, if_pos ⟨by omega, by omega⟩, show o + j * width e + i - (o + k * width e) = (j - k) * width e + i by omega]
          exact hv
      · obtain ⟨us, hru, hau⟩ := hx j hj'
        refine ⟨us, ?_, out us (RepC_len hru) (.inr (by omega)) hau⟩
        have : (xs.take k ++ ys ++ xs.drop (k + ys.length))[j] = xs[j] := by
          rw [List.getElem_append_right (by simp; omega), List.getElem_drop]
          congr 1
          simp; omega
        rw [this]
        exact hru.mono hs1.free
  cases l' with
  | tmp t => exact key _ hat
  | comp t i =>
    rcases hat with h | ⟨v, h⟩
    · cases h
    · exact .inr ⟨v, key v h⟩
  | box id' j =>
    rcases hat with h | ⟨b', n', v, hb, hc, h⟩
    · cases h
    · have hne : b' ≠ b := by
        intro e; subst e
        rw [(hr.box id' b' n' hb).1] at hρ
        cases hρ
      exact .inr ⟨b', n', v, hb, (cell_setRow_other w b _ _ hne).trans hc, key v h⟩
  | om => rcases hat with h | ⟨s, h, _⟩ <;> cases h
theorem zeros_flat {O : Nat → Prop} {e : Ty} {z : Value} (hz : z.cells.toList = zeroCells e) (n : Nat) : Flat w O e (List.replicate n (zeroEl e)) (Builtin.zeroCells z.cells n).toList := by
  have hzs : z.cells.size = width e := by
    have := congrArg List.length hz
    rw [Array.length_toList] at this
    rw [this, RepC_len (RepC_zero (w := w) (O := fun _ => False) e)]
  refine ⟨by simp [Builtin.zeroCells, hzs], fun j hj => ⟨zeroCells e, by rw [List.getElem_replicate]; exact RepC_zero e, fun i v hi => ?_⟩, fun v hv => ?_⟩
  · rw [List.length_replicate] at hj
    have hi' : i < width e := by
      have := (List.getElem?_eq_some_iff.1 hi).1
      rw [RepC_len (RepC_zero (w := w) (O := fun _ => False) e)] at this
      exact this
    have hlt : j * width e + i < n * z.cells.size := by
      rw [hzs]
      have h1 : (j + 1) * width e ≤ n * width e := Nat.mul_le_mul_right _ (by omega)
      rw [Nat.add_mul, Nat.one_mul] at h1
      omega
    have hmod : (j * width e + i) % z.cells.size = i := by
      rw [hzs, Nat.mul_comm, Nat.mul_add_mod, Nat.mod_eq_of_lt hi']
    have hzi : z.cells[i]? = some v := by rw [← Array.getElem?_toList, hz]; exact hi
    have hg : z.cells[i]! = v := by rw [getElem!_def, hzi]
    simp [Builtin.zeroCells, hlt, hmod, hg]
  · simp only [Builtin.zeroCells, Array.toList_map, Array.toList_range, List.mem_map, List.mem_range] at hv
    obtain ⟨i, hi, rfl⟩ := hv
    have hpos : 0 < z.cells.size := by
      rcases Nat.eq_zero_or_pos z.cells.size with h | h
      · rw [h] at hi; omega
      · exact h
    have hlt := Nat.mod_lt i hpos
    have hg : z.cells[i % z.cells.size]! = z.cells[i % z.cells.size] := by rw [getElem!_def, Array.getElem?_eq_getElem hlt]
    rw [hg]
    refine RepC_one (RepC_zero (w := w) (O := fun _ => False) e) _ ?_
    rw [← hz]
    exact Array.getElem_mem_toList hlt
theorem cut_spec {α : Type} {xs ys : List α} {lo hi : Int} (h : cut xs lo hi = some ys) : 0 ≤ lo ∧ lo ≤ hi ∧ hi ≤ (xs.length : Int) ∧ ys = (xs.take hi.toNat).drop lo.toNat := by
  unfold cut at h
  split at h
  · rename_i hb
    simp only [Bool.and_eq_true, decide_eq_true_eq] at hb
    cases h
    exact ⟨hb.1, hb.2.1, hb.2.2, rfl⟩
  · cases h
theorem ok_clear (hT : TabOk P T) {c : Call} (hc : c.callee = .builtin .clear) : OpOk P C N rc i ⟨dst, .call c, ty, pos, after, guard⟩
    (match c.args.toList, c.argTypes.toList, dst with
      | [x], [t], none => Prg.opt (T.get t) fun ti => (match ti.kind, ti.ty with
        | .sl _, .sl E => opG x fun v => (match v with
          | .one (.avw l id sz lo hi) => .get l fun u => (match u with
            | .one (.arr id' e xs) => (match and (idB id id') (and (Nat.beq sz (width e)) (E.beq e)) with
              | true => .bind (cut xs lo hi) fun ys => .done [(l, .one (.arr id' e (xs.take lo.toNat ++ List.replicate ys.length (zeroEl e) ++ xs.drop hi.toNat)))]
              | false => .fail)
            | _ => .fail)
          | _ => .fail)
        | _, _ => .fail)
      | _, _, _ => .fail) := by
  intro G used st a w acc rs ws hr hf h K Q hK
  split at h
  · rename_i x t ha ht
    obtain ⟨ti, hti, h⟩ := runs_opt h
    split at h
    · rename_i et E hk hty
      obtain ⟨hu, hz⟩ := hT.sl hti hk
      obtain ⟨j, z, hj, hjs, hjb, hjz, hzc, _⟩ := zeroB_spec (hz E hty)
      obtain ⟨v, acc1, h, hv, -⟩ := runs_opG hr h
      split at h
      · rename_i l id sz lo hi
        have h' : Prg.Runs st (match st.get l with
            | .one (.arr id' e xs) => (match and (idB id id') (and (Nat.beq sz (width e)) (E.beq e)) with
              | true => .bind (cut xs lo hi) fun ys => .done [(l, .one (.arr id' e (xs.take lo.toNat ++ List.replicate ys.length (zeroEl e) ++ xs.drop hi.toNat)))]
              | false => .fail)
            | _ => .fail) (l :: acc1) rs ws := h
        split at h'
        · rename_i id' e xs hl
          split at h'
          · rename_i hb
            rw [Bool.and_eq_true, Bool.and_eq_true] at hb
            obtain ⟨h1, h2, h3⟩ := hb
            obtain rfl := idB_iff.1 h1
            obtain rfl := Nat.eq_of_beq_eq_true h2
            obtain rfl := Ty.eq_of_beq h3
            obtain ⟨ys, hy, h'⟩ := h'
            obtain ⟨rfl, -⟩ := h'
            obtain ⟨k0, k1, k2, rfl⟩ := cut_spec hy
            have hv' : RepL C G w none (.avw l id (width E) lo hi : Leaf Ω) (a.eval x) := (hv : RepL C G w (opLoc x) (.avw l id (width E) lo hi) (a.eval x))
            obtain ⟨ad, len, cap, bs, hΓ, _, _, hlen, hlc, hval⟩ := hv'
            have hat := toList_one ht
            have hyl : ((xs.take hi.toNat).drop lo.toNat).length = hi.toNat - lo.toNat := by simp; omega
            have hal := ali_arr hr ⟨bs, hΓ⟩ hl (idB_iff.2 rfl)
            by_cases he : hi.toNat - lo.toNat = 0
            · have hsame : xs.take lo.toNat ++ List.replicate ((xs.take hi.toNat).drop lo.toNat).length (zeroEl E) ++ xs.drop hi.toNat = xs := by
                rw [hyl, he, show lo.toNat = hi.toNat by omega]
                simp
              have hn : (hi - lo).toNat = 0 := by omega
              have hb : ∀ consts, (Go.builtin .clear c.argTypes ty consts #[a.eval x]).run P w = .ok (.value (.tuple #[])) w := by
                intro consts
                rw [hat, hval, hn]
                cases (if (cap : Int) = lo then ad else ad.map (·.add (lo.toNat * width E))) <;> simp [Go.builtin, Builtin.clear_, run_underlying hu]
              refine wp_value (run_builtin hc (map_one ha) hb) (hK G _ w (Fr.refl _ _) ?_)
              rw [hsame]
              refine (hr.at_op rc i).congr fun l2 => ?_
              by_cases e : l = l2
              · subst e; simp [S.get, locB_self, hl]
              · simp [S.get, locB_ne e]
            · rcases hal with ⟨rfl, e'⟩ | ⟨b, o', cap2, cs, el, ev, hcap, hρ, hh, hsz, hx⟩
              · simp at k2; omega
              cases ev
              have hlo : lo.toNat < xs.length := by omega
              have hzf : Flat w G.O E (List.replicate ((xs.take hi.toNat).drop lo.toNat).length (zeroEl E)) (Builtin.zeroCells z.cells (hi - lo).toNat).toList := by
                rw [hyl, show (hi - lo).toNat = hi.toNat - lo.toNat by omega]
                exact zeros_flat hzc _
              obtain ⟨c', el', hh', hin, hfr, hrep⟩ := hr.storeRun (k := lo.toNat) hl hΓ (ys := List.replicate ((xs.take hi.toNat).drop lo.toNat).length (zeroEl E)) (by rw [List.length_replicate, hyl]; omega) (by
                intro e; have := congrArg List.length e; rw [List.length_replicate, hyl] at this; simp at this; omega) hzf
              rw [hh] at hh'
              cases hh'
              obtain ⟨m, hm⟩ : ∃ m, (hi - lo).toNat = m + 1 := ⟨(hi - lo).toNat - 1, by omega⟩
              have hv2 : a.eval x = .slice (some ⟨b, o' + lo.toNat * width E, none⟩) (m + 1) (cap - lo.toNat) := by
                rw [hval, if_neg (by omega), hm]
                simp [Addr.add]
              have hst := run_storeCells (P := P) (b := b) (off := o' + lo.toNat * width E) (Builtin.zeroCells z.cells (hi - lo).toNat).toList 0 cs w hh (by rw [Nat.add_zero]; exact hin) hzf.one
              rw [Nat.add_zero] at hst
              have hb : ∀ consts, (Go.builtin .clear c.argTypes ty consts #[a.eval x]).run P w = .ok (.value (.tuple #[])) (w.setRow b (spl cs (o' + lo.toNat * width E) (Builtin.zeroCells z.cells (hi - lo).toNat).toList)) := by
                intro consts
                rw [hm] at hst ⊢
                rw [hat, hv2]
                simp [Go.builtin, Builtin.clear_, run_underlying hu, zeroValue, typeInfo, hj, hjz, hst]
              refine wp_value (run_builtin hc (map_one ha) hb) (hK G _ _ hfr ?_)
              rw [List.length_replicate, hyl, show lo.toNat + (hi.toNat - lo.toNat) = hi.toNat by omega] at hrep
              rw [hyl]
              exact hrep.at_op rc i
          · exact h'.elim
        · exact h'.elim
      · exact h.elim
    · exact h.elim
  · exact h.elim
end
end Go.Proofs.Ytbgefphoochgcaa.FE
/- FE, part 19: functions by contract: the contract; what is handed over. -/
namespace Go.Proofs.Ytbgefphoochgcaa.FE
open Go
set_option linter.unusedVariables false
set_option linter.unusedSimpArgs false

/-! ### the contract -/
def LSRep (ρ : Nat → Option Own) (w : World) (o : Own) (s : LS) (d : DL) (v : Value) : Prop :=
  match s with
  | .dat t => ∃ x, d = ⟨t, x⟩ ∧ RepC w (Ow ρ) t x [v]
  | .arr e => ∃ xs, d = ⟨.sl e, xs⟩ ∧ ArrRep ρ w o e xs v
  | .omp k u => ∃ m bs, d = ⟨.mp k u, m⟩ ∧ MapRep ρ w o k u m v bs
def BoxRep (ρ : Nat → Option Own) (w : World) (id : Id) (ls : List LS) (ds : List DL) (v : Value) : Prop :=
  ∃ b c el, v = .pointer (some ⟨b, 0, none⟩) ∧ ρ b = some (.bx id) ∧ w.heap[b]? = some (.cells c el (0, 0)) ∧ c.size = ls.length ∧ ds.length = ls.length ∧
    ∀ (j : Nat) s d u, ls[j]? = some s → ds[j]? = some d → c[j]? = some u → LSRep ρ w (.at_ (.box id j)) s d u
def ParRep (ρ : Nat → Option Own) (w : World) (p : Nat) (q : PS) (ds : List DL) (v : Value) : Prop :=
  match q with
  | .v (.dat t) => ∃ x, ds = [⟨t, x⟩] ∧ RepV w (Ow ρ) t x v
  | .v s | .mu s => ∃ d, ds = [d] ∧ LSRep ρ w (.at_ (.tmp p)) s d v
  | .ep t => ∃ x b off l, ds = [⟨t, x⟩] ∧ v = .pointer (some ⟨b, off, none⟩) ∧ ¬ Ow ρ b ∧ RepC w (Ow ρ) t x l ∧ At w b off l
  | .bx ls => BoxRep ρ w (0, 0, p) ls ds v
  | .fn => ds = []
def ParsRep (ρ : Nat → Option Own) (w : World) : Nat → List PS → List DL → List Value → Prop
  | _, [], ds, vs => ds = [] ∧ vs = []
  | p, q :: qs, ds, vs => ∃ d1 d2 v vs', ds = d1 ++ d2 ∧ vs = v :: vs' ∧ ParRep ρ w p q d1 v ∧ ParsRep ρ w (p + 1) qs d2 vs'
def OutRep (ρ : Nat → Option Own) (w : World) (p : Nat) (q : PS) (ds : List DL) (v : Value) : Prop :=
  match q with
  | .mu s => ∃ d, ds = [d] ∧ LSRep ρ w (.at_ (.tmp p)) s d v
  | .bx ls => BoxRep ρ w (0, 0, p) ls ds v
  | _ => ds = []
def OutsRep (ρ : Nat → Option Own) (w : World) : Nat → List PS → List DL → List Value → Prop
  | _, [], ds, vs => ds = [] ∧ vs = []
  | p, q :: qs, ds, vs => ∃ d1 d2 v vs', ds = d1 ++ d2 ∧ vs = v :: vs' ∧ OutRep ρ w p q d1 v ∧ OutsRep ρ w (p + 1) qs d2 vs'
def ResRep (ρ : Nat → Option Own) (w : World) (n : Nat) (r : RS) (ds : List DL) (v : Value) : Prop :=
  match r with
  | .v (.dat t) => ∃ x, ds = [⟨t, x⟩] ∧ RepV w (Ow ρ) t x v
  | .v s => ∃ d, ds = [d] ∧ LSRep ρ w (.at_ (.comp 0 n)) s d v
  | .bx ls => BoxRep ρ w (0, 1, n) ls ds v
def ResList (ρ : Nat → Option Own) (w : World) : Nat → List RS → List DL → List Value → Prop
  | _, [], ds, vs => ds = [] ∧ vs = []
  | n, r :: rs, ds, vs => ∃ d1 d2 v vs', ds = d1 ++ d2 ∧ vs = v :: vs' ∧ ResRep ρ w n r d1 v ∧ ResList ρ w (n + 1) rs d2 vs'
def ResAll (ρ : Nat → Option Own) (w : World) (rs : List RS) (ds : List DL) (v : Value) : Prop :=
  match rs with
  | [] => ds = []
  | [r] => ResRep ρ w 0 r ds v
  | rs => ∃ us : Array Value, v = .tuple us ∧ ResList ρ w 0 rs ds us.toList
/-- A function does in memory what its Lean function says. -/
structure Sound (P : Program) (f : Nat) (fn : Fun) : Prop where
  enter : ∀ args w, (callFunc f args).run P w = .ok (.enter f args) w
  calls : ∀ (ρ : Nat → Option Own) w (args : Array Value) x y, fn.f x = some y → (∀ b, Ow ρ b → b < w.heap.size) → ParsRep ρ w 0 fn.sig.pars (unTup _ x) args.toList →
    Calls P f args w fun e w' => ∃ v ρ', e = .returned v ∧ Fr ρ w ρ' w' ∧ (∀ b, Ow ρ' b → b < w'.heap.size) ∧ ∃ d1 d2, unOut fn.sig.outs y = d1 ++ d2 ∧ ResAll ρ' w' fn.sig.res d1 v ∧ OutsRep ρ' w' 0 fn.sig.pars d2 args.toList

section
variable {Ω : Type} {C : CloRep Ω} {P : Program} {T : Tab} {N : Nat}
variable {rc i : Nat} {dst : Option Nat} {ty : Nat} {pos : String} {after : Array Edge} {guard : Option (Nat × Bool)}
variable {G : Ghost} {used used' : Id → Prop} {st ws : S Ω} {a : Act} {w w' : World} {acc rs : List Loc} {o : Oper} {K : Act → World → Prop} {Q : Exit → Act → World → Prop}

/-! ### one argument -/
def datS : LS → Bool | .dat _ => true | _ => false
def PlnOk (sc : Bool) (G : Ghost) (w : World) (q : PS) (x : Pln) (v : Value) : Prop :=
  match q, x with
  | .v (.dat t), .d d => ∃ y, d = ⟨t, y⟩ ∧ RepV w (match sc with | true => fun b => G.ρ b = some .om | false => G.O) t y v
  | .v s, .t id s' => s' = s ∧ datS s = false ∧ ∃ bs, G.Γ id = some (v, bs)
  | .mu s, .m l id s' => s' = s ∧ datS s = false ∧ ∃ bs, G.Γ id = some (v, bs)
  | .ep t, .d d => ∃ y b off l, d = ⟨t, y⟩ ∧ v = .pointer (some ⟨b, off, none⟩) ∧ ¬ G.O b ∧ RepC w G.O t y l ∧ At w b off l
  | .bx ls, .b id ls' => ls' = ls ∧ 0 < ls.length ∧ ∃ b, G.β id = some (b, ls.length) ∧ v = .pointer (some ⟨b, 0, none⟩)
  | .fn, .n => True
  | _, _ => False
def PlnsOk (sc : Bool) (G : Ghost) (w : World) : List PS → List Pln → List Value → Prop
  | [], [], [] => True
  | q :: qs, x :: xs, v :: vs => PlnOk sc G w q x v ∧ PlnsOk sc G w qs xs vs
  | _, _, _ => False
theorem PlnOk.moves {sc : Bool} {G' : Ghost} {q : PS} {x : Pln} {v : Value} (hm : Moves G w G') (h : PlnOk sc G w q x v) : PlnOk sc G' w q x v := by
  cases q with
  | v s =>
    cases s with
    | dat t =>
      cases x with
      | d d =>
        obtain ⟨y, e, hy⟩ := h
        refine ⟨y, e, ?_⟩
        cases sc with
        | true => exact RepV.mono (fun b hb hn => ⟨rfl, fun e => hn (hm.omr b hb e (by simp))⟩) hy
        | false => exact RepV.mono hm.free hy
      | t id s' => obtain ⟨_, h, _⟩ := h; cases h
      | _ => exact h.elim
    | _ => cases x <;> first | exact h.elim | (obtain ⟨e, h1, bs, h2⟩ := h; exact ⟨e, h1, bs, hm.Γ _ _ h2⟩)
  | mu s => cases x <;> first | exact h.elim | (obtain ⟨e, h1, bs, h2⟩ := h; exact ⟨e, h1, bs, hm.Γ _ _ h2⟩)
  | ep t =>
    cases x with
    | d d =>
      obtain ⟨y, b, off, l, e, hv, hb, hr, hat⟩ := h
      exact ⟨y, b, off, l, e, hv, (hm.free b hat.lt hb).2, hr.mono hm.free, hat⟩
    | _ => exact h.elim
  | bx ls =>
    cases x with
    | b id ls' =>
      obtain ⟨e, h0, b, hb, hv⟩ := h
      exact ⟨e, h0, b, hm.β _ _ hb, hv⟩
    | _ => exact h.elim
  | fn => cases x <;> first | exact h | exact h.elim
theorem PlnsOk.moves {sc : Bool} {G' : Ghost} (hm : Moves G w G') : ∀ {qs : List PS} {xs : List Pln} {vs : List Value}, PlnsOk sc G w qs xs vs → PlnsOk sc G' w qs xs vs
  | [], [], [], _ => trivial
  | q :: qs, x :: xs, v :: vs, h => ⟨h.1.moves hm, PlnsOk.moves hm h.2⟩
  | [], _ :: _, _, h => h.elim
  | [], [], _ :: _, h => h.elim
  | _ :: _, [], _, h => h.elim
  | _ :: _, _ :: _, [], h => h.elim
def Ghost.loose (G : Ghost) : Ghost := { G with ρ := fun b => match G.ρ b with | some .om => some .om | _ => none }
theorem loose_iff {b : Nat} : G.loose.O b ↔ G.ρ b = some .om := by
  show (match G.ρ b with | some .om => some Own.om | _ => none) ≠ none ↔ _
  cases h : G.ρ b with
  | none => simp
  | some o => cases o <;> simp
theorem loose_O {b : Nat} (h : ¬ G.O b) : ¬ G.loose.O b := fun h' => h (show G.ρ b ≠ none by rw [loose_iff.1 h']; simp)
theorem RepL.loose {l : Leaf Ω} {v : Value} (h : RepL C G w none l v) : RepL C G.loose w none l v := by
  cases l with
  | dat t x => exact RepC.mono (fun b _ h => ⟨rfl, loose_O h⟩) h
  | arr id e xs => obtain ⟨l, e, _⟩ := h; cases e
  | omp id k v m => obtain ⟨l, bs, e, _⟩ := h; cases e
  | eptr t x =>
    obtain ⟨b, off, l, e, hb, hr, hat⟩ := h
    exact ⟨b, off, l, e, loose_O hb, hr.mono (fun b _ h => ⟨rfl, loose_O h⟩), hat⟩
  | _ => exact h
theorem bothB_iff {a b : Bool} (h : bothB a b = true) : a = b := by cases a <;> cases b <;> first | rfl | cases h
def shaped : Bool → Value → Prop | true, v => ∃ vs, v = .agg vs | false, v => v.oneCell' = true
theorem repV_of {O : Nat → Prop} {t : Ty} {y : El t} {agg : Bool} {v : Value} (ha : agg = rowB t) (hv : shaped agg v) (h : RepC w O t y v.cells.toList) : RepV w O t y v := by
  subst ha
  unfold RepV Val
  cases hr : rowB t with
  | true =>
    rw [hr] at hv
    obtain ⟨vs, rfl⟩ := hv
    exact ⟨vs, rfl, h⟩
  | false =>
    rw [hr] at hv
    rw [cells_one hv] at h
    exact h
theorem shape_of {u : AV Ω} {v : Value} (h : RepAV C G w none u v) (hs : sizedV u = true) : shaped (aggV u) v := by
  cases u with
  | one l => exact noAgg_leaf (C := C) (G := G) (w := w) (at_ := none) h (live_ne hs)
  | agg ls => obtain ⟨vs, e, _⟩ := h; exact ⟨vs, e⟩
  | tup ps => cases hs
/-- A datum that is looked at: as it is in memory, whoever owns what. -/
theorem RepB.val {t : Ty} {u : AV Ω} {v : Value} {x : El t} (h : RepB C G w u v) (hf : fitsV u (width t) = true) (ha : bothB (aggV u) (rowB t) = true) (hp : packAll t (leavesOf u) = some x) : RepV w (fun b => G.ρ b = some .om) t x v := by
  obtain ⟨hs, hl⟩ := fitsV_iff hf
  have fin : RepAV C G.loose w none u v → RepV w (fun b => G.ρ b = some .om) t x v := fun h =>
    repV_of (bothB_iff ha) (shape_of h hs) ((packAll_rep hp (leaves_rep h hs)).mono fun b _ hn => ⟨rfl, fun e => hn (loose_iff.2 e)⟩)
  cases u with
  | one l =>
    have key : RepL C G.loose w none l v := by
      have h2 : (∃ t' y, l = .dat t' y) ∨ RepL C G w none l v := by
        cases l <;> first | exact .inr h | exact .inl ⟨_, _, rfl⟩
      rcases h2 with ⟨t', y, rfl⟩ | h2
      · have h' : RepC w (fun b => G.ρ b = some .om) t' y [v] := h
        exact (show RepC w G.loose.O t' y [v] from h'.mono fun b _ hn => ⟨rfl, fun e => hn (loose_iff.1 e)⟩)
      · exact h2.loose
    exact fin key
  | agg ls =>
    obtain ⟨vs, e, h⟩ := h
    exact fin ⟨vs, e, h.mono fun _ _ => RepL.loose⟩
  | tup ps => cases hs
/-- What has been taken waits at a place of its own. -/
theorem Rep.putComp (hr : Rep C G N used st a w) {t n : Nat} {u : AV Ω} {v : Value} (hu : RepAV1 C G w (some (.comp t n)) u v) : Rep C G N used ([(.comp t n, u)] ++ st) a w := by
  refine Rep.step (ws := [(.comp t n, u)]) hr (Step.refl' hr _) (fun l hl => ?_) (fun _ _ => rfl) hr.size hr.defers (fun _ _ _ h => .inl h) hr.usedΓ hr.usedβ
  have : l = .comp t n := by simpa [inL_iff] using hl
  subst this
  have e : S.get [(Loc.comp t n, u)] (.comp t n) = u := by simp [S.get, locB_self]
  rw [e]
  exact .inr ⟨v, hu⟩
theorem argP_runs {sc : Bool} {p : Nat} {q : PS} (hr : Rep C G N used st a w) {o : Operand} {v : AV Ω} {x : Value} (hv : RepAV C G w (opLoc o) v x) (hsrc : ∀ t, o = .tmp t → v = st.get (.tmp t))
    (h1 : ¬ used (rc, i, 1 + 2 * p)) (h2 : ¬ used (rc, i, 2 + 2 * p)) (hu : ∀ id, used id → used' id) (hn1 : used' (rc, i, 1 + 2 * p)) (hn2 : used' (rc, i, 2 + 2 * p)) {f : Pln → Prg Ω} (h : (argP sc rc i p q o v f).Runs st acc rs ws) :
    ∃ pl ws' ws2 acc' G1, ws = ws2 ++ ws' ∧ (f pl).Runs (ws' ++ st) acc' rs ws2 ∧ Moves G w G1 ∧ Rep C G1 N used' (ws' ++ st) a w ∧ PlnOk sc G1 w q pl x := by
  have same : ∀ {pl acc'}, (f pl).Runs st acc' rs ws → PlnOk sc G w q pl x → ∃ pl ws' ws2 acc' G1, ws = ws2 ++ ws' ∧ (f pl).Runs (ws' ++ st) acc' rs ws2 ∧ Moves G w G1 ∧ Rep C G1 N used' (ws' ++ st) a w ∧ PlnOk sc G1 w q pl x :=
    fun h k => ⟨_, [], ws, _, G, by simp, h, Step.refl' hr _, hr.mono hu, k⟩
  have take : ∀ {s : LS}, datS s = false → q = .v s → (takeV o (rc, i, 1 + 2 * p) v (takeK rc i p s f)).Runs st acc rs ws →
      ∃ pl ws' ws2 acc' G1, ws = ws2 ++ ws' ∧ (f pl).Runs (ws' ++ st) acc' rs ws2 ∧ Moves G w G1 ∧ Rep C G1 N used' (ws' ++ st) a w ∧ PlnOk sc G1 w q pl x := by
    intro s hs hq hk
    clear same h
    subst hq
    obtain ⟨u, ws', ws2, acc', G1, rfl, hk, hm, _, hr1, hu1⟩ := runs_take hr hv hsrc (goL rc i p) h1 (used' := fun id => used id ∨ id = (rc, i, 1 + 2 * p)) (fun _ h => .inl h) (.inr rfl) hk
    rename_i hk0 _
    clear hk0
    have hu2 : ∀ id, (fun id => used id ∨ id = (rc, i, 1 + 2 * p)) id → used' id := by
      rintro id (h | rfl)
      · exact hu _ h
      · exact hn1
    unfold takeK at hk
    split at hk
    · rename_i e id e' xs
      obtain ⟨_, _, hk2⟩ := runs_opt hk
      obtain ⟨ws3, rfl, hk3⟩ := hk2
      obtain ⟨l, el, ⟨bs, hΓ⟩, ha⟩ := hu1
      refine ⟨_, [(goL rc i p, .one (.arr id e' xs))] ++ ws', ws3, _, G1, by simp, by simpa using hk3, hm, by rw [List.append_assoc]; exact (hr1.putComp (u := .one (.arr id e' xs)) (v := x) ⟨l, el, ⟨bs, hΓ⟩, ha⟩).mono hu2, ?_⟩
      exact ⟨rfl, rfl, bs, hΓ⟩
    · rename_i e
      obtain ⟨ws3, rfl, hk3⟩ := hk
      have hx : x = .slice none 0 0 := hu1
      subst hx
      have hun : ¬ (fun id => used id ∨ id = (rc, i, 1 + 2 * p)) (rc, i, 2 + 2 * p) := by
        rintro (h | h)
        · exact h2 h
        · simp only [Prod.mk.injEq, true_and] at h; omega
      have hr2 := hr1.name hun (.slice none 0 0) [] (used' := used') hu2 hn2
      refine ⟨_, [(goL rc i p, .one (.arr (rc, i, 2 + 2 * p) e []))] ++ ws', ws3, _, _, by simp, by simpa using hk3, hm.moves (name_step hr1 hun (.slice none 0 0) [] _), by rw [List.append_assoc]; exact hr2.putComp (u := .one (.arr (rc, i, 2 + 2 * p) e [])) (v := .slice none 0 0) ⟨_, rfl, ⟨[], name_at⟩, .inl ⟨rfl, rfl⟩⟩, ?_⟩
      exact ⟨rfl, rfl, [], name_at⟩
    · rename_i a b id a' b' m
      obtain ⟨_, _, hk2⟩ := runs_opt hk
      obtain ⟨ws3, rfl, hk3⟩ := hk2
      obtain ⟨l, bs, el, hΓ, ha⟩ := hu1
      refine ⟨_, [(goL rc i p, .one (.omp id a' b' m))] ++ ws', ws3, _, G1, by simp, by simpa using hk3, hm, by rw [List.append_assoc]; exact (hr1.putComp (u := .one (.omp id a' b' m)) (v := x) ⟨l, bs, el, hΓ, ha⟩).mono hu2, ?_⟩
      exact ⟨rfl, rfl, bs, hΓ⟩
    · exact hk.elim
  cases q with
  | v s =>
    cases s with
    | dat t =>
      cases sc with
      | true =>
        have h' : Prg.Runs st (borrow v fun u => match and (fitsV u (width t)) (bothB (aggV u) (rowB t)) with
          | true => Prg.opt (packAll t (leavesOf u)) fun x => f (.d ⟨t, x⟩)
          | false => .fail) acc rs ws := h
        obtain ⟨u, acc2, h', hb⟩ := runs_borrow hr hv h'
        split at h'
        · rename_i hc
          rw [Bool.and_eq_true] at hc
          obtain ⟨y, hy, h'⟩ := runs_opt h'
          exact same h' ⟨y, rfl, hb.val hc.1 hc.2 hy⟩
        · exact h'.elim
      | false =>
        have h' : Prg.Runs st (freeze o v fun u => match and (fitsV u (width t)) (bothB (aggV u) (rowB t)) with
          | true => Prg.opt (packAll t (leavesOf u)) fun x => f (.d ⟨t, x⟩)
          | false => .fail) acc rs ws := h
        obtain ⟨u, ws', ws2, acc2, G1, rfl, h', hm, _, _, hr1, hu1, hn⟩ := runs_freeze hr hv hsrc h'
        split at h'
        · rename_i hc
          rw [Bool.and_eq_true] at hc
          obtain ⟨y, hy, h'⟩ := runs_opt h'
          obtain ⟨hs, _⟩ := fitsV_iff hc.1
          exact ⟨_, ws', ws2, _, G1, rfl, h', hm, hr1.mono hu, y, rfl, repV_of (bothB_iff hc.2) (shape_of hu1 hs) (packAll_rep hy (leaves_rep hu1 hs))⟩
        · exact h'.elim
    | arr e => exact take rfl rfl h
    | omp k m => exact take rfl rfl h
  | mu s =>
    cases s with
    | dat t => exact h.elim
    | arr e0 =>
      obtain ⟨l, id, e, xs, acc', h, hl, hΓ, _⟩ := arrG_runs hr (fun _ _ => ownLoc_rep hv) h
      exact same h ⟨rfl, rfl, hΓ⟩
    | omp k m =>
      obtain ⟨l, id, k', v', m', acc', bs, h, hl, hΓ, _⟩ := mapG_runs hr (fun _ _ => ownLoc_rep hv) h
      exact same h ⟨rfl, rfl, bs, hΓ⟩
  | ep t =>
    simp only [argP] at h
    split at h
    · obtain ⟨y, hy, h'⟩ := runs_opt h
      obtain ⟨b, off, l, e, hb, hrep, hat⟩ := hv
      exact same h' ⟨y, b, off, l, rfl, e, hb, packAll_rep (C := C) hy (unpack_rep hrep), hat⟩
    · exact h.elim
  | bx ls =>
    simp only [argP] at h
    split at h
    · rename_i id n
      split at h
      · rename_i hc
        rw [Bool.and_eq_true] at hc
        obtain rfl := Nat.eq_of_beq_eq_true hc.1
        obtain ⟨b, hb, e⟩ := hv
        exact same h ⟨rfl, Nat.le_of_ble_eq_true hc.2, b, hb, e⟩
      · exact h.elim
    · exact h.elim
  | fn =>
    simp only [argP] at h
    split at h
    · exact same h trivial
    · exact same h trivial
    · exact h.elim
end
end Go.Proofs.Ytbgefphoochgcaa.FE
/- FE, part 20: functions by contract: the way in. -/
namespace Go.Proofs.Ytbgefphoochgcaa.FE
open Go
set_option linter.unusedVariables false
set_option linter.unusedSimpArgs false
section
variable {Ω : Type} {C : CloRep Ω} {P : Program} {T : Tab} {N : Nat}
variable {rc i : Nat} {dst : Option Nat} {ty : Nat} {pos : String} {after : Array Edge} {guard : Option (Nat × Bool)}
variable {G : Ghost} {used used' : Id → Prop} {st ws : S Ω} {a : Act} {w w' : World} {acc rs : List Loc} {o : Oper} {K : Act → World → Prop} {Q : Exit → Act → World → Prop}

def usedA (used : Id → Prop) (rc i p : Nat) : Id → Prop := fun id => used id ∨ ∃ s, 1 ≤ s ∧ s < 1 + 2 * p ∧ id = (rc, i, s)
theorem usedA_new {p s : Nat} (hf : FreshAt used rc i) (h : 1 + 2 * p ≤ s) : ¬ usedA used rc i p (rc, i, s) := by
  rintro (h' | ⟨s', _, h2, e⟩)
  · exact hf s h'
  · simp only [Prod.mk.injEq, true_and] at e; omega
theorem argsP_runs {sc : Bool} (hf : FreshAt used rc i) : ∀ (qs : List PS) (os : List Operand) (p : Nat) {G : Ghost} {st : S Ω} {f : List Pln → Prg Ω} {acc : List Loc} {ws : List (Loc × AV Ω)}, Rep C G N (usedA used rc i p) st a w → (argsP sc rc i p qs os f).Runs st acc rs ws →
    ∃ xs ws' ws2 acc' G1, ws = ws2 ++ ws' ∧ (f xs).Runs (ws' ++ st) acc' rs ws2 ∧ Moves G w G1 ∧ Rep C G1 N (usedA used rc i (p + qs.length)) (ws' ++ st) a w ∧ PlnsOk sc G1 w qs xs (os.map a.eval)
  | [], [], p, G, st, f, acc, ws, hr, h => ⟨[], [], ws, acc, G, by simp, h, Step.refl' hr _, hr, trivial⟩
  | [], _ :: _, p, G, st, f, acc, ws, hr, h => h.elim
  | _ :: _, [], p, G, st, f, acc, ws, hr, h => h.elim
  | q :: qs, o :: os, p, G, st, f, acc, ws, hr, h => by
    have h' : Prg.Runs st (opG o fun v => argP sc rc i p q o v fun x => argsP sc rc i (p + 1) qs os fun xs => f (x :: xs)) acc rs ws := h
    obtain ⟨v, acc1, h', hv, hs⟩ := runs_opG hr h'
    obtain ⟨x, ws', ws2, acc2, G1, rfl, h', hm, hr1, hx⟩ := argP_runs hr hv hs (usedA_new hf (by omega)) (usedA_new hf (by omega)) (used' := usedA used rc i (p + 1)) (by
      rintro id (h | ⟨s, h1, h2, e⟩)
      · exact .inl h
      · exact .inr ⟨s, h1, by omega, e⟩) (.inr ⟨_, by omega, by omega, rfl⟩) (.inr ⟨_, by omega, by omega, rfl⟩) h'
    obtain ⟨xs, ws3, ws4, acc3, G2, rfl, h', hm2, hr2, hxs⟩ := argsP_runs hf qs os (p + 1) hr1 h'
    refine ⟨x :: xs, ws3 ++ ws', ws4, acc3, G2, by simp, by rw [List.append_assoc]; exact h', hm.moves hm2, ?_, hx.moves hm2, hxs⟩
    rw [List.append_assoc, List.length_cons, show p + (qs.length + 1) = p + 1 + qs.length by omega]
    exact hr2

/-! ### what is handed over, read -/
/-- The value that stands at a place. -/
def ValAt (G : Ghost) (a : Act) (w : World) (l : Loc) (v : Value) : Prop :=
  match l with
  | .tmp t => a.tmps.getD t undef = v
  | .box id j => ∃ b n, G.β id = some (b, n) ∧ w.cell? ⟨b, j, none⟩ = some v
  | .comp _ _ => True
  | .om => False
def PlnRep (VA : Loc → Value → Prop) (sc : Bool) (ρ : Nat → Option Own) (w : World) (rc i p : Nat) (q : PS) (x : Pln) (ds : List DL) (v : Value) : Prop :=
  match q, x with
  | .v (.dat t), .d _ => ∃ y, ds = [⟨t, y⟩] ∧ RepV w (match sc with | true => fun b => ρ b = some .om | false => Ow ρ) t y v
  | .v s, .t _ _ => datS s = false ∧ ∃ d, ds = [d] ∧ LSRep ρ w (.at_ (goL rc i p)) s d v
  | .mu s, .m l _ s' => s' = s ∧ datS s = false ∧ VA l v ∧ ∃ d, ds = [d] ∧ LSRep ρ w (.at_ l) s d v
  | .ep t, .d _ => ∃ y b off l, ds = [⟨t, y⟩] ∧ v = .pointer (some ⟨b, off, none⟩) ∧ ¬ Ow ρ b ∧ RepC w (Ow ρ) t y l ∧ At w b off l
  | .bx ls, .b id ls' => ls' = ls ∧ 0 < ls.length ∧ BoxRep ρ w id ls ds v
  | .fn, .n => ds = []
  | _, _ => False
def PlnsRep (VA : Loc → Value → Prop) (sc : Bool) (ρ : Nat → Option Own) (w : World) (rc i : Nat) : Nat → List PS → List Pln → List DL → List Value → Prop
  | _, [], xs, ds, vs => xs = [] ∧ ds = [] ∧ vs = []
  | p, q :: qs, xs, ds, vs => ∃ x xs' d1 d2 v vs', xs = x :: xs' ∧ ds = d1 ++ d2 ∧ vs = v :: vs' ∧ PlnRep VA sc ρ w rc i p q x d1 v ∧ PlnsRep VA sc ρ w rc i (p + 1) qs xs' d2 vs'
theorem RepAt.val {l : Loc} {id : Id} {u : AV Ω} {v : Value} (h : RepAt C G a w l u) (h1 : idV id u = true) (hΓ : ∃ bs, G.Γ id = some (v, bs)) : ValAt G a w l v := by
  have key : ∀ {v'}, RepAV1 C G w (some l) u v' → v' = v := by
    intro v' h
    obtain ⟨bs, hΓ⟩ := hΓ
    unfold idV at h1
    split at h1
    · obtain rfl := idB_iff.1 h1
      obtain ⟨_, _, ⟨bs', h2⟩, _⟩ := h
      rw [hΓ] at h2; cases h2; rfl
    · obtain rfl := idB_iff.1 h1
      obtain ⟨_, bs', _, h2, _⟩ := h
      rw [hΓ] at h2; cases h2; rfl
    · cases h1
  have hd : u ≠ .one .dead := by rintro rfl; cases h1
  cases l with
  | tmp t =>
    have h' : RepAV C G w (some (.tmp t)) u (a.tmps.getD t undef) := h
    cases u with
    | tup vs => cases h1
    | _ => exact key h'
  | comp t n => trivial
  | box id j =>
    rcases h with h | ⟨b, n, v', h2, h3, h4⟩
    · exact absurd h hd
    · exact ⟨b, n, h2, by rw [h3, key h4]⟩
  | om =>
    rcases h with h | ⟨s, h2, _⟩
    · exact absurd h hd
    · subst h2; cases h1
theorem leaf_own (hr : Rep C G N used st a w) {l : Loc} {s : LS} {d : DL} {id : Id} {v : Value} (hs : datS s = false) (h1 : idV id (st.get l) = true) (h2 : leafLS s (st.get l) = some d) (hΓ : ∃ bs, G.Γ id = some (v, bs)) : LSRep G.ρ w (.at_ l) s d v := by
  unfold leafLS at h2
  split at h2
  · cases hs
  · rename_i e id' e' xs hl
    simp only [Option.map_eq_some_iff] at h2
    obtain ⟨ys, hc, rfl⟩ := h2
    obtain ⟨ee, rfl⟩ := cast_eq hc
    cases ee
    have h1 : idB id id' = true := by rw [hl] at h1; exact h1
    exact ⟨_, rfl, ali_arr hr hΓ hl h1⟩
  · rename_i hl
    rw [hl] at h1; cases h1
  · rename_i k u id' k' u' m hl
    simp only [Option.map_eq_some_iff] at h2
    obtain ⟨ys, hc, rfl⟩ := h2
    obtain ⟨ee, rfl⟩ := cast_eq hc
    cases ee
    have h1 : idB id id' = true := by rw [hl] at h1; exact h1
    obtain ⟨bs, hΓ⟩ := hΓ
    exact ⟨_, bs, rfl, ali_omp hr hΓ hl h1⟩
  · cases h2
/-- What can be packed is data. -/
def datL : Leaf Ω → Bool | .dat _ _ | .nilS | .nilM | .nilP => true | _ => false
theorem pack_dat : ∀ {t : Ty} {ls : List (Leaf Ω)} {z : El t × List (Leaf Ω)}, pack t ls = some z → ∃ us, ls = us ++ z.2 ∧ ∀ l ∈ us, datL l = true := by
  intro t
  have leaf : ∀ {t : Ty} {ls : List (Leaf Ω)} {z : El t × List (Leaf Ω)}, (∀ a b, t ≠ .pair a b) → (∀ r, t ≠ .st r) → t ≠ .unit → pack t ls = some z → ∃ us, ls = us ++ z.2 ∧ ∀ l ∈ us, datL l = true := by
    intro t ls z h1 h2 h3 h
    have one : ∀ {l : Leaf Ω} {r : List (Leaf Ω)}, ls = l :: r → z.2 = r → datL l = true → ∃ us, ls = us ++ z.2 ∧ ∀ l ∈ us, datL l = true := by
      intro l r e1 e2 hd
      refine ⟨[l], by rw [e1, e2]; rfl, fun x hx => ?_⟩
      obtain rfl : x = l := by simpa using hx
      exact hd
    cases ls with
    | nil => cases t <;> first | exact absurd rfl (h1 _ _) | exact absurd rfl (h2 _) | exact absurd rfl h3 | cases h
    | cons l r =>
      cases l with
      | dat t' x =>
        have h' : (cast? t' t x).bind (fun y => some (y, r)) = some z := by
          cases t <;> first | exact absurd rfl (h1 _ _) | exact absurd rfl (h2 _) | exact absurd rfl h3 | exact h
        simp only [Option.bind_eq_some_iff] at h'
        obtain ⟨y, _, e⟩ := h'
        cases e
        exact one rfl rfl rfl
      | nilS => cases t <;> first | exact absurd rfl (h1 _ _) | exact absurd rfl (h2 _) | exact absurd rfl h3 | cases h <;> exact one rfl rfl rfl
      | nilM => cases t <;> first | exact absurd rfl (h1 _ _) | exact absurd rfl (h2 _) | exact absurd rfl h3 | cases h <;> exact one rfl rfl rfl
      | nilP => cases t <;> first | exact absurd rfl (h1 _ _) | exact absurd rfl (h2 _) | exact absurd rfl h3 | cases h <;> exact one rfl rfl rfl
      | _ => cases t <;> first | exact absurd rfl (h1 _ _) | exact absurd rfl (h2 _) | exact absurd rfl h3 | cases h
  induction t with
  | pair a b ha hb =>
    intro ls z h
    simp only [pack, Option.bind_eq_some_iff] at h
    obtain ⟨x, hx, y, hy, e⟩ := h
    cases e
    obtain ⟨u1, e1, h1⟩ := ha hx
    obtain ⟨u2, e2, h2⟩ := hb hy
    refine ⟨u1 ++ u2, by rw [e1, e2, List.append_assoc], fun l hl => ?_⟩
    rcases List.mem_append.1 hl with h | h
    · exact h1 l h
    · exact h2 l h
  | st r ih => intro ls z h; exact ih h
  | unit => intro ls z h; cases h; exact ⟨[], rfl, fun l hl => by cases hl⟩
  | _ => intro ls z h; exact leaf (fun _ _ => by simp) (fun _ => by simp) (by simp) h
theorem packAll_dat {t : Ty} {ls : List (Leaf Ω)} {x : El t} (h : packAll t ls = some x) : ∀ l ∈ ls, datL l = true := by
  unfold packAll at h
  simp only [Option.bind_eq_some_iff] at h
  obtain ⟨z, hz, hx⟩ := h
  obtain ⟨us, e, hu⟩ := pack_dat hz
  split at hx
  · rename_i e0
    rw [e0, List.append_nil] at e
    subst e
    exact hu
  · cases hx
theorem leaf_box {id : Id} {j : Nat} {u : AV Ω} {v : Value} {s : LS} {d : DL} (h : RepAV1 C G w (some (.box id j)) u v) (h2 : leafLS s u = some d) : LSRep G.ρ w (.at_ (.box id j)) s d v := by
  unfold leafLS at h2
  split at h2
  · rename_i t l
    simp only [Option.map_eq_some_iff] at h2
    obtain ⟨y, hy, rfl⟩ := h2
    have hd := packAll_dat hy l (by simp)
    have h' : RepL C G w none l v := by cases l <;> first | exact h | cases hd
    exact ⟨y, rfl, packAll_rep hy (.cons h' .nil)⟩
  · simp only [Option.map_eq_some_iff] at h2
    obtain ⟨ys, hc, rfl⟩ := h2
    obtain ⟨ee, rfl⟩ := cast_eq hc
    cases ee
    obtain ⟨l, e, _, ha⟩ := h
    cases e
    exact ⟨_, rfl, ha⟩
  · cases h2
    exact ⟨[], rfl, .inl ⟨rfl, h⟩⟩
  · simp only [Option.map_eq_some_iff] at h2
    obtain ⟨ys, hc, rfl⟩ := h2
    obtain ⟨ee, rfl⟩ := cast_eq hc
    cases ee
    obtain ⟨l, bs, e, _, ha⟩ := h
    cases e
    exact ⟨_, bs, rfl, ha⟩
  · cases h2
theorem leafLS_dead {s : LS} {d : DL} (h : leafLS s (.one .dead : AV Ω) = some d) : False := by
  cases s with
  | dat t =>
    simp only [leafLS, Option.map_eq_some_iff] at h
    obtain ⟨y, hy, _⟩ := h
    cases packAll_dat hy _ (List.mem_cons_self)
  | _ => cases h
theorem readB_runs (hr : Rep C G N used st a w) {id : Id} {b n : Nat} (hb : G.β id = some (b, n)) : ∀ (ls : List LS) (j : Nat) {f : List DL → Prg Ω} {acc : List Loc}, (readB id j ls f).Runs st acc rs ws →
    ∃ ds acc', (f ds).Runs st acc' rs ws ∧ ds.length = ls.length ∧ ∀ k s d u, ls[k]? = some s → ds[k]? = some d → w.cell? ⟨b, j + k, none⟩ = some u → LSRep G.ρ w (.at_ (.box id (j + k))) s d u
  | [], j, f, acc, h => ⟨[], acc, h, rfl, fun k s d u h => by simp at h⟩
  | s :: ls, j, f, acc, h => by
    have h' : Prg.Runs st (.get (.box id j) fun v => Prg.opt (leafLS s v) fun d => readB id (j + 1) ls fun ds => f (d :: ds)) acc rs ws := h
    obtain ⟨d, hd, h'⟩ := runs_opt (m := leafLS s (st.get (.box id j))) h'
    obtain ⟨ds, acc', h', hl, hx⟩ := readB_runs hr hb ls (j + 1) h'
    refine ⟨d :: ds, acc', h', by simp [hl], fun k s' d' u h1 h2 h3 => ?_⟩
    cases k with
    | zero =>
      simp at h1 h2
      subst h1 h2
      rcases hr.at_ (.box id j) with h4 | ⟨b', n', v, h4, h5, h6⟩
      · rw [h4] at hd; exact (leafLS_dead hd).elim
      · rw [hb] at h4
        cases h4
        rw [Nat.add_zero] at h3
        rw [h3] at h5
        cases h5
        exact leaf_box h6 hd
    | succ k =>
      rw [show j + (k + 1) = j + 1 + k by omega]
      exact hx k s' d' u (by simpa using h1) (by simpa using h2) (by rw [show j + 1 + k = j + (k + 1) by omega]; exact h3)
theorem readP_runs {sc : Bool} {p : Nat} {q : PS} {x : Pln} {v : Value} (hr : Rep C G N used st a w) (hx : PlnOk sc G w q x v) {f : List DL → Prg Ω} (h : (readP rc i p x f).Runs st acc rs ws) :
    ∃ ds acc', (f ds).Runs st acc' rs ws ∧ PlnRep (ValAt G a w) sc G.ρ w rc i p q x ds v := by
  have own : ∀ {l : Loc} {id : Id} {s : LS}, datS s = false → (∃ bs, G.Γ id = some (v, bs)) → (Prg.get l fun u => match idV id u with | true => Prg.opt (leafLS s u) fun d => f [d] | false => .fail).Runs st acc rs ws →
      ∃ d acc', (f [d]).Runs st acc' rs ws ∧ LSRep G.ρ w (.at_ l) s d v ∧ ValAt G a w l v := by
    intro l id s hs hΓ h
    have h' : Prg.Runs st (match idV id (st.get l) with | true => Prg.opt (leafLS s (st.get l)) fun d => f [d] | false => .fail) (l :: acc) rs ws := h
    split at h'
    · rename_i hi
      obtain ⟨d, hd, h'⟩ := runs_opt h'
      exact ⟨d, _, h', leaf_own hr hs hi hd hΓ, (hr.at_ l).val hi hΓ⟩
    · exact h'.elim
  cases q with
  | v s =>
    cases s with
    | dat t =>
      cases x with
      | d d => obtain ⟨y, rfl, hy⟩ := hx; exact ⟨_, _, h, y, rfl, hy⟩
      | t id s' => obtain ⟨_, h, _⟩ := hx; cases h
      | _ => exact hx.elim
    | _ =>
      cases x <;> first
        | exact hx.elim
        | (obtain ⟨rfl, hs, hΓ⟩ := hx
           obtain ⟨d, acc', h1, h2, _⟩ := own hs hΓ h
           exact ⟨_, _, h1, hs, d, rfl, h2⟩)
  | mu s =>
    cases x <;> first
      | exact hx.elim
      | (obtain ⟨rfl, hs, hΓ⟩ := hx
         obtain ⟨d, acc', h1, h2, h3⟩ := own hs hΓ h
         exact ⟨_, _, h1, rfl, hs, h3, d, rfl, h2⟩)
  | ep t =>
    cases x with
    | d d => obtain ⟨y, b, off, l, rfl, hy⟩ := hx; exact ⟨_, _, h, y, b, off, l, rfl, hy⟩
    | _ => exact hx.elim
  | bx ls =>
    cases x with
    | b id ls' =>
      obtain ⟨rfl, h0, b, hb, hv⟩ := hx
      obtain ⟨ds, acc', h1, h2, h3⟩ := readB_runs hr hb _ 0 h
      obtain ⟨hρ, c, el, hh, hsz⟩ := hr.box id b _ hb
      refine ⟨ds, acc', h1, rfl, h0, b, c, el, hv, hρ, hh, hsz, h2, fun j s d u k1 k2 k3 => ?_⟩
      have := h3 j s d u k1 k2 (by simp [World.cell?, hh, k3])
      rwa [Nat.zero_add] at this
    | _ => exact hx.elim
  | fn =>
    cases x with
    | n => exact ⟨[], _, h, rfl⟩
    | _ => exact hx.elim
theorem readPs_runs {sc : Bool} (hr : Rep C G N used st a w) : ∀ (qs : List PS) (xs : List Pln) (vs : List Value) (p : Nat) {f : List DL → Prg Ω} {acc : List Loc}, PlnsOk sc G w qs xs vs → (readPs rc i p xs f).Runs st acc rs ws →
    ∃ ds acc', (f ds).Runs st acc' rs ws ∧ PlnsRep (ValAt G a w) sc G.ρ w rc i p qs xs ds vs
  | [], [], [], p, f, acc, _, h => ⟨[], acc, h, rfl, rfl, rfl⟩
  | q :: qs, x :: xs, v :: vs, p, f, acc, hx, h => by
    obtain ⟨d1, acc1, h1, h2⟩ := readP_runs (f := fun ds => readPs rc i (p + 1) xs fun ds' => f (ds ++ ds')) hr hx.1 h
    obtain ⟨d2, acc2, h3, h4⟩ := readPs_runs hr qs xs vs (p + 1) (f := fun ds' => f (d1 ++ ds')) hx.2 h1
    exact ⟨_, acc2, h3, x, xs, d1, d2, v, vs, rfl, rfl, rfl, h2, h4⟩
  | [], _ :: _, _, _, _, _, h, _ => h.elim
  | [], [], _ :: _, _, _, _, h, _ => h.elim
  | _ :: _, [], _, _, _, _, h, _ => h.elim
  | _ :: _, _ :: _, [], _, _, _, h, _ => h.elim
end
end Go.Proofs.Ytbgefphoochgcaa.FE
/- FE, part 21: functions by contract: who owns what, within and behind. -/
namespace Go.Proofs.Ytbgefphoochgcaa.FE
open Go
set_option linter.unusedVariables false
set_option linter.unusedSimpArgs false
section
variable {Ω : Type} {C : CloRep Ω} {P : Program} {T : Tab} {N : Nat}
variable {rc i : Nat} {G : Ghost} {used used' : Id → Prop} {st ws : S Ω} {a : Act} {w w' : World} {acc rs : List Loc}

theorem ArrRep.tr {ρ ρ' : Nat → Option Own} {o o' : Own} {e : Ty} {xs : List (El e)} {v : Value} (h : ArrRep ρ w o e xs v) (ho : ∀ b, ρ b = some o → ρ' b = some o') (hf : ∀ b, ¬ Ow ρ b → ¬ Ow ρ' b) : ArrRep ρ' w o' e xs v := by
  rcases h with h | ⟨b, off, cap, c, el, hv, hc, hb, hh, hsz, hx⟩
  · exact .inl h
  · exact .inr ⟨b, off, cap, c, el, hv, hc, ho b hb, hh, hsz, fun j hj => let ⟨vs, h1, h2⟩ := hx j hj; ⟨vs, h1.mono fun b _ h => ⟨rfl, hf b h⟩, h2⟩⟩
theorem MapRep.tr {ρ ρ' : Nat → Option Own} {o o' : Own} {k u : Ty} {m : List (El k × El u)} {v : Value} {bs : List Nat} (h : MapRep ρ w o k u m v bs) (ho : ∀ b, ρ b = some o → ρ' b = some o') (hf : ∀ b, ¬ Ow ρ b → ¬ Ow ρ' b) : MapRep ρ' w o' k u m v bs := by
  obtain ⟨b, es, clock, hu, hb, hh, hsz, hbs, hx, hr⟩ := h
  exact ⟨b, es, clock, hu, ho b hb, hh, hsz, hbs, fun j hj => let ⟨en, he, h1, h2⟩ := hx j hj; ⟨en, he, h1.mono fun b _ h => ⟨rfl, hf b h⟩, h2.mono fun b _ h => ⟨rfl, hf b h⟩⟩, hr⟩
theorem LSRep.tr {ρ ρ' : Nat → Option Own} {o o' : Own} {s : LS} {d : DL} {v : Value} (h : LSRep ρ w o s d v) (ho : ∀ b, ρ b = some o → ρ' b = some o') (hf : ∀ b, ¬ Ow ρ b → ¬ Ow ρ' b) : LSRep ρ' w o' s d v := by
  cases s with
  | dat t => obtain ⟨x, e, h⟩ := h; exact ⟨x, e, h.mono fun b _ h => ⟨rfl, hf b h⟩⟩
  | arr e => obtain ⟨xs, e, h⟩ := h; exact ⟨xs, e, h.tr ho hf⟩
  | omp k u => obtain ⟨m, bs, e, h⟩ := h; exact ⟨m, bs, e, h.tr ho hf⟩
theorem BoxRep.tr {ρ ρ' : Nat → Option Own} {id id' : Id} {ls : List LS} {ds : List DL} {v : Value} (h : BoxRep ρ w id ls ds v) (hb : ∀ b, ρ b = some (.bx id) → ρ' b = some (.bx id')) (ho : ∀ j, j < ls.length → ∀ b, ρ b = some (.at_ (.box id j)) → ρ' b = some (.at_ (.box id' j))) (hf : ∀ b, ¬ Ow ρ b → ¬ Ow ρ' b) : BoxRep ρ' w id' ls ds v := by
  obtain ⟨b, c, el, hv, hρ, hh, hsz, hl, hx⟩ := h
  refine ⟨b, c, el, hv, hb b hρ, hh, hsz, hl, fun j s d u h1 h2 h3 => (hx j s d u h1 h2 h3).tr (ho j ?_) hf⟩
  exact (List.getElem?_eq_some_iff.1 h1).1

/-! ### the way in -/
def hit (rc i p : Nat) (x : Pln) (o : Own) : Option Own :=
  match x, o with
  | .t _ _, .at_ l => if locB (goL rc i p) l then some (.at_ (.tmp p)) else none
  | .m l' _ _, .at_ l => if locB l' l then some (.at_ (.tmp p)) else none
  | .b id ls, .at_ l => (match l with | .box id' j => if idB id id' && Nat.blt j ls.length then some (.at_ (.box (0, 0, p) j)) else none | _ => none)
  | .b id _, .bx id' => if idB id id' then some (.bx (0, 0, p)) else none
  | _, _ => none
def trOwn (rc i : Nat) : Nat → List Pln → Own → Own
  | _, [], _ => .ext
  | p, x :: r, o => match hit rc i p x o with | some o' => o' | none => trOwn rc i (p + 1) r o
def pln1 (rc i p : Nat) (x : Pln) : List Loc := match x with | .d _ => [] | .n => [] | .t _ _ => [goL rc i p] | .m l _ _ => [l] | .b id ls => boxL id 0 ls.length
theorem plnL_cons (p : Nat) (x : Pln) (r : List Pln) : plnL rc i p (x :: r) = pln1 rc i p x ++ plnL rc i (p + 1) r := by cases x <;> rfl
def plnI : List Pln → List Id
  | [] => []
  | .b id _ :: r => id :: plnI r
  | _ :: r => plnI r
theorem mem_boxL {id : Id} : ∀ {n j k : Nat}, Loc.box id k ∈ boxL id j n ↔ j ≤ k ∧ k < j + n
  | 0, j, k => by simp only [boxL, List.not_mem_nil, false_iff]; omega
  | n + 1, j, k => by
    simp only [boxL, List.mem_cons, mem_boxL (n := n), Loc.box.injEq, true_and]
    omega
theorem boxL_id {id : Id} : ∀ {n j : Nat} {l : Loc}, l ∈ boxL id j n → ∃ k, l = .box id k
  | 0, j, l, h => by cases h
  | n + 1, j, l, h => by
    rcases List.mem_cons.1 h with h | h
    · exact ⟨j, h⟩
    · exact boxL_id h
theorem hit_loc {p : Nat} {x : Pln} {l : Loc} {o : Own} (h : hit rc i p x (.at_ l) = some o) : l ∈ pln1 rc i p x := by
  cases x with
  | d d => cases h
  | n => cases h
  | t id s =>
    simp only [hit] at h
    split at h
    · rename_i e
      simp [pln1, locB_iff.1 e]
    · cases h
  | m l' id s =>
    simp only [hit] at h
    split at h
    · rename_i e
      simp [pln1, locB_iff.1 e]
    · cases h
  | b id ls =>
    simp only [hit] at h
    split at h
    · split at h
      · rename_i e
        simp only [Bool.and_eq_true] at e
        obtain rfl := idB_iff.1 e.1
        exact mem_boxL.2 ⟨by omega, by have := Nat.le_of_ble_eq_true e.2; omega⟩
      · cases h
    · cases h
theorem distL_split : ∀ {A B : List Loc}, distL (A ++ B) = true → (∀ l ∈ A, l ∈ B → False) ∧ distL B = true
  | [], B, h => ⟨fun l hl => (by cases hl), h⟩
  | a :: A, B, h => by
    have h' : (match inL a (A ++ B) with | true => false | false => distL (A ++ B)) = true := h
    split at h'
    · cases h'
    · rename_i hn
      obtain ⟨h1, h2⟩ := distL_split h'
      refine ⟨fun l hl hB => ?_, h2⟩
      rcases List.mem_cons.1 hl with rfl | hl
      · have : inL l (A ++ B) = true := inL_iff.2 (List.mem_append.2 (.inr hB))
        rw [hn] at this; cases this
      · exact h1 l hl hB
theorem trOwn_out : ∀ {xs : List Pln} {p : Nat} {l : Loc}, l ∉ plnL rc i p xs → trOwn rc i p xs (.at_ l) = .ext
  | [], _, _, _ => rfl
  | x :: r, p, l, h => by
    rw [plnL_cons, List.mem_append, not_or] at h
    unfold trOwn
    split
    · rename_i o e
      exact absurd (hit_loc e) h.1
    · exact trOwn_out h.2
theorem trOwn_bx : ∀ {xs : List Pln} {p : Nat} {id : Id}, id ∉ plnI xs → trOwn rc i p xs (.bx id) = .ext
  | [], _, _, _ => rfl
  | x :: r, p, id, h => by
    unfold trOwn
    have hh : hit rc i p x (.bx id) = none ∧ id ∉ plnI r := by
      cases x with
      | b id' ls =>
        simp only [plnI, List.mem_cons, not_or] at h
        refine ⟨?_, h.2⟩
        simp only [hit]
        rw [if_neg]
        intro e
        exact h.1 (idB_iff.1 e).symm
      | _ => exact ⟨rfl, h⟩
    rw [hh.1]
    exact trOwn_bx hh.2
theorem trOwn_rest {o : Own} (h : (∀ l, o ≠ .at_ l) ∧ ∀ id, o ≠ .bx id) : ∀ {xs : List Pln} {p : Nat}, trOwn rc i p xs o = .ext
  | [], _ => rfl
  | x :: r, p => by
    unfold trOwn
    have : hit rc i p x o = none := by
      cases o with
      | at_ l => exact absurd rfl (h.1 l)
      | bx id => exact absurd rfl (h.2 id)
      | _ => cases x <;> rfl
    rw [this]
    exact trOwn_rest h
theorem trOwn_ne {o : Own} : ∀ {xs : List Pln} {p : Nat}, trOwn rc i p xs o ≠ .om
  | [], _ => by simp [trOwn]
  | x :: r, p => by
    unfold trOwn
    split
    · rename_i o' e
      rintro rfl
      unfold hit at e
      repeat' split at e
      all_goals cases e
    · exact trOwn_ne
theorem plnI_loc {VA : Loc → Value → Prop} {sc : Bool} {ρ : Nat → Option Own} : ∀ {qs : List PS} {xs : List Pln} {ds : List DL} {vs : List Value} {p : Nat}, PlnsRep VA sc ρ w rc i p qs xs ds vs → ∀ id ∈ plnI xs, Loc.box id 0 ∈ plnL rc i p xs
  | [], xs, ds, vs, p, h, id, hi => by obtain ⟨rfl, _⟩ := h; cases hi
  | q :: qs, _, _, _, p, ⟨x, xs, d1, d2, v, vs, rfl, rfl, rfl, hx, hxs⟩, id, hi => by
    rw [plnL_cons, List.mem_append]
    cases x with
    | b id' ls =>
      simp only [plnI, List.mem_cons] at hi
      rcases hi with rfl | hi
      · refine .inl (mem_boxL.2 ⟨by omega, ?_⟩)
        cases q with
        | bx ls0 => obtain ⟨rfl, h0, _⟩ := hx; omega
        | v s => cases s <;> first | exact hx.elim
        | _ => exact hx.elim
      · exact .inr (plnI_loc hxs id hi)
    | _ => exact .inr (plnI_loc hxs id hi)
/-- Within: the parameters. -/
theorem pars_in {VA : Loc → Value → Prop} {ρ ρe : Nat → Option Own} (hf : ∀ b, ¬ Ow ρ b → ¬ Ow ρe b) : ∀ {qs : List PS} {xs : List Pln} {ds : List DL} {vs : List Value} {p : Nat}, PlnsRep VA false ρ w rc i p qs xs ds vs → distL (plnL rc i p xs) = true →
    (∀ l ∈ plnL rc i p xs, ∀ b, ρ b = some (.at_ l) → ρe b = some (trOwn rc i p xs (.at_ l))) → (∀ id ∈ plnI xs, ∀ b, ρ b = some (.bx id) → ρe b = some (trOwn rc i p xs (.bx id))) → ParsRep ρe w p qs ds vs
  | [], xs, ds, vs, p, h, _, _, _ => h.2
  | q :: qs, _, _, _, p, ⟨x, xs, d1, d2, v, vs, rfl, rfl, rfl, hx, hxs⟩, hd, h1, h2 => by
    rw [plnL_cons] at hd
    obtain ⟨hd1, hd2⟩ := distL_split hd
    refine ⟨d1, d2, v, vs, rfl, rfl, ?_, pars_in hf hxs hd2 (fun l hl b hb => ?_) (fun id hi b hb => ?_)⟩
    · have own : ∀ {l : Loc} {s : LS} {d : DL}, l ∈ pln1 rc i p x → hit rc i p x (.at_ l) = some (.at_ (.tmp p)) → LSRep ρ w (.at_ l) s d v → LSRep ρe w (.at_ (.tmp p)) s d v := by
        intro l s d hl hh h
        refine h.tr (fun b hb => ?_) hf
        have := h1 l (by rw [plnL_cons]; exact List.mem_append.2 (.inl hl)) b hb
        rw [this]
        simp only [trOwn, hh]
      have val : ∀ {s : LS}, datS s = false → (∃ d, d1 = [d] ∧ LSRep ρe w (.at_ (.tmp p)) s d v) → ParRep ρe w p (.v s) d1 v := by
        intro s hs h
        cases s with
        | dat t => cases hs
        | _ => exact h
      cases q with
      | v s =>
        cases x with
        | d d0 =>
          cases s with
          | dat t => obtain ⟨y, e, hy⟩ := hx; exact ⟨y, e, RepV.mono (fun b _ h => ⟨rfl, hf b h⟩) hy⟩
          | _ => exact hx.elim
        | t id s' =>
          have hx' : datS s = false ∧ ∃ d, d1 = [d] ∧ LSRep ρ w (.at_ (goL rc i p)) s d v := by
            cases s <;> first | exact hx | (obtain ⟨h, _⟩ := hx; cases h)
          obtain ⟨hs, d, e, h⟩ := hx'
          exact val hs ⟨d, e, own (l := goL rc i p) (by simp [pln1]) (by simp [hit, locB_self]) h⟩
        | _ => cases s <;> exact hx.elim
      | mu s =>
        cases x with
        | m l id s' =>
          obtain ⟨rfl, hs, _, d, e, h⟩ := hx
          exact ⟨d, e, own (l := l) (by simp [pln1]) (by simp [hit, locB_self]) h⟩
        | _ => exact hx.elim
      | ep t =>
        cases x with
        | d d0 =>
          obtain ⟨y, b, off, l, e, hv, hb, hr, hat⟩ := hx
          exact ⟨y, b, off, l, e, hv, hf b hb, hr.mono fun b _ h => ⟨rfl, hf b h⟩, hat⟩
        | _ => exact hx.elim
      | bx ls =>
        cases x with
        | b id ls' =>
          obtain ⟨rfl, h0, hb⟩ := hx
          refine hb.tr (fun b hb => ?_) (fun j hj b hb => ?_) hf
          · rw [h2 id (by simp [plnI]) b hb]
            simp [trOwn, hit, idB_iff.2 rfl]
          · rw [h1 (.box id j) (by rw [plnL_cons]; exact List.mem_append.2 (.inl (mem_boxL.2 ⟨by omega, by omega⟩))) b hb]
            have hb' : Nat.blt j ls'.length = true := Nat.ble_eq_true_of_le hj
            simp [trOwn, hit, idB_iff.2 rfl, hb']
        | _ => exact hx.elim
      | fn =>
        cases x with
        | n => exact hx
        | _ => exact hx.elim
    · rw [h1 l (by rw [plnL_cons]; exact List.mem_append.2 (.inr hl)) b hb]
      simp only [trOwn]
      split
      · rename_i o e
        exact (hd1 l (hit_loc e) hl).elim
      · rfl
    · have hi' : id ∈ plnI (x :: xs) := by cases x <;> simp [plnI, hi]
      rw [h2 id hi' b hb]
      simp only [trOwn]
      split
      · rename_i o e
        exfalso
        cases x with
        | b id' ls =>
          simp only [hit] at e
          split at e
          · rename_i e'
            obtain rfl := idB_iff.1 e'
            refine hd1 (.box id' 0) (mem_boxL.2 ⟨by omega, ?_⟩) (plnI_loc hxs _ hi)
            cases q with
            | bx ls0 => obtain ⟨rfl, h0, _⟩ := hx; omega
            | v s => cases s <;> exact hx.elim
            | _ => exact hx.elim
          · cases e
        | _ => cases e
      · rfl
/-- Within, where all is but looked at. -/
theorem pars_look {VA : Loc → Value → Prop} {ρ : Nat → Option Own} : ∀ {qs : List PS} {xs : List Pln} {ds : List DL} {vs : List Value} {p : Nat}, allB plainS qs = true → PlnsRep VA true ρ w rc i p qs xs ds vs → ParsRep (fun _ => none) w p qs ds vs
  | [], xs, ds, vs, p, _, h => h.2
  | q :: qs, _, _, _, p, hp, ⟨x, xs, d1, d2, v, vs, rfl, rfl, rfl, hx, hxs⟩ => by
    simp only [allB] at hp
    split at hp
    · rename_i hq
      refine ⟨d1, d2, v, vs, rfl, rfl, ?_, pars_look hp hxs⟩
      cases q with
      | v s =>
        cases s with
        | dat t =>
          cases x with
          | d d0 => obtain ⟨y, e, hy⟩ := hx; exact ⟨y, e, RepV.mono (fun b _ _ => ⟨rfl, fun h => h rfl⟩) hy⟩
          | t _ _ => obtain ⟨h, _⟩ := hx; cases h
          | _ => exact hx.elim
        | _ => cases hq
      | ep t =>
        cases x with
        | d d0 =>
          obtain ⟨y, b, off, l, e, hv, hb, hr, hat⟩ := hx
          exact ⟨y, b, off, l, e, hv, fun h => h rfl, hr.mono fun b _ _ => ⟨rfl, fun h => h rfl⟩, hat⟩
        | _ => exact hx.elim
      | _ => cases hq
    · cases hp
end
end Go.Proofs.Ytbgefphoochgcaa.FE
/- FE, part 22: functions by contract: the way out. -/
namespace Go.Proofs.Ytbgefphoochgcaa.FE
open Go
set_option linter.unusedVariables false
set_option linter.unusedSimpArgs false
section
variable {Ω : Type} {C : CloRep Ω} {P : Program} {T : Tab} {N : Nat}
variable {rc i : Nat} {G : Ghost} {used used' : Id → Prop} {st ws : S Ω} {a : Act} {w w' : World} {acc rs : List Loc}

/-- Who owns behind the call what the function owned at its end. -/
def bk (xs : List Pln) (rl : Nat → Option Own) (rb : Nat → Option Id) (o : Own) : Option Own :=
  match o with
  | .at_ (.tmp p) => (match xs[p]? with | some (.m l _ _) => some (.at_ l) | _ => none)
  | .at_ (.box (a, c, p) j) => (match a, c with
    | 0, 0 => (match xs[p]? with | some (.b id _) => some (.at_ (.box id j)) | _ => none)
    | 0, 1 => (match rb p with | some id => some (.at_ (.box id j)) | none => none)
    | _, _ => none)
  | .at_ (.comp t n) => (match t with | 0 => rl n | _ => none)
  | .bx (a, c, p) => (match a, c with
    | 0, 0 => (match xs[p]? with | some (.b id _) => some (.bx id) | _ => none)
    | 0, 1 => (match rb p with | some id => some (.bx id) | none => none)
    | _, _ => none)
  | _ => none
def outρ (n : Nat) (ρ ρ' : Nat → Option Own) (xs : List Pln) (rl : Nat → Option Own) (rb : Nat → Option Id) : Nat → Option Own := fun b =>
  match ρ' b with
  | none => none
  | some .ext => if b < n then ρ b else none
  | some o => bk xs rl rb o
theorem bk_om {xs : List Pln} {rl : Nat → Option Own} {rb : Nat → Option Id} (hrl : ∀ n, rl n ≠ some .om) {o : Own} : bk xs rl rb o ≠ some .om := by
  unfold bk
  repeat' split
  all_goals first | exact hrl _ | simp
section
variable {n : Nat} {ρ ρ' : Nat → Option Own} {xs : List Pln} {rl : Nat → Option Own} {rb : Nat → Option Id}
theorem outρ_none {b : Nat} (h : ¬ Ow ρ' b) : ¬ Ow (outρ n ρ ρ' xs rl rb) b := by
  have h' : ρ' b = none := by
    cases e : ρ' b with
    | none => rfl
    | some o => exact absurd (show ρ' b ≠ none by rw [e]; simp) h
  show ¬ (outρ n ρ ρ' xs rl rb b ≠ none)
  simp [outρ, h']
theorem outρ_ext {b : Nat} (h : ρ' b = some .ext) (hb : b < n) : outρ n ρ ρ' xs rl rb b = ρ b := by simp [outρ, h, hb]
theorem outρ_own {b : Nat} {o : Own} (h : ρ' b = some o) (ho : o ≠ .ext) : outρ n ρ ρ' xs rl rb b = bk xs rl rb o := by
  cases o with
  | ext => exact absurd rfl ho
  | _ => simp [outρ, h]
end
/-- The variables that are handed over, behind the call. -/
theorem outs_box {ρ' : Nat → Option Own} : ∀ {qs : List PS} {xs : List Pln} {ds : List DL} {vs : List Value} {p : Nat}, PlnsOk false G w qs xs vs → OutsRep ρ' w' p qs ds vs → ∀ id ∈ plnI xs,
    ∃ k ls b c el, xs[k]? = some (.b id ls) ∧ G.β id = some (b, ls.length) ∧ ρ' b = some (.bx (0, 0, p + k)) ∧ w'.heap[b]? = some (.cells c el (0, 0)) ∧ c.size = ls.length
  | [], [], ds, vs, p, _, _, id, hi => by cases hi
  | [], _ :: _, ds, vs, p, h, _, id, hi => h.elim
  | _ :: _, [], ds, vs, p, h, _, id, hi => h.elim
  | q :: qs, x :: xs, ds, v :: vs, p, h, ho, id, hi => by
    obtain ⟨d1, d2, v', vs', rfl, ev, ho1, ho2⟩ := ho
    cases ev
    have tail : id ∈ plnI xs → ∃ k ls b c el, (x :: xs)[k]? = some (.b id ls) ∧ G.β id = some (b, ls.length) ∧ ρ' b = some (.bx (0, 0, p + k)) ∧ w'.heap[b]? = some (.cells c el (0, 0)) ∧ c.size = ls.length := by
      intro hi
      obtain ⟨k, ls, b, c, el, h1, h2, h3, h4, h5⟩ := outs_box h.2 ho2 id hi
      exact ⟨k + 1, ls, b, c, el, by simpa using h1, h2, by rw [show p + (k + 1) = p + 1 + k by omega]; exact h3, h4, h5⟩
    cases x with
    | b id' ls =>
      simp only [plnI, List.mem_cons] at hi
      rcases hi with rfl | hi
      · cases q with
        | bx ls0 =>
          obtain ⟨⟨rfl, h0, b, hb, hv⟩, _⟩ := h
          obtain ⟨b', c, el, hv', hρ, hh, hsz, _⟩ := ho1
          rw [hv] at hv'
          cases hv'
          exact ⟨0, _, b, c, el, rfl, hb, hρ, hh, hsz⟩
        | v s => cases s <;> exact h.1.elim
        | _ => exact h.1.elim
      · exact tail hi
    | _ => exact tail hi
  | _ :: _, _ :: _, ds, [], p, h, _, id, hi => h.elim
theorem heap_some {b : Nat} (h : b < w.heap.size) : ∃ o, w.heap[b]? = some o := ⟨_, Array.getElem?_eq_getElem h⟩
/-- The step of memory that a call is. -/
theorem out_step (hr : Rep C G N used st a w) {qs : List PS} {xs : List Pln} {ds : List DL} {vs : List Value} (hx : PlnsOk false G w qs xs vs) {ρ' : Nat → Option Own} (hfr : Fr (fun b => (G.ρ b).map (trOwn rc i 0 xs)) w ρ' w') (ho : OutsRep ρ' w' 0 qs ds vs)
    (hlt : ∀ b, Ow ρ' b → b < w'.heap.size) (rl : Nat → Option Own) (hrl : ∀ n, rl n ≠ some .om) (rb : Nat → Option Id) {L : Loc → Prop} (hL : ∀ l ∈ plnL rc i 0 xs, L l) : Step G w { G with ρ := outρ w.heap.size G.ρ ρ' xs rl rb } w' L := by
  have ext : ∀ {b o}, G.ρ b = some o → trOwn rc i 0 xs o = .ext → w'.heap[b]? = w.heap[b]? ∧ outρ w.heap.size G.ρ ρ' xs rl rb b = some o := by
    intro b o hb ht
    obtain ⟨h1, h2⟩ := hfr.ext b (by show (G.ρ b).map _ = _; rw [hb, Option.map_some, ht])
    exact ⟨h1, by rw [outρ_ext h2 (hr.lt b (show G.ρ b ≠ none by rw [hb]; simp)), hb]⟩
  refine ⟨fun _ _ h => h, fun _ _ h => h, hfr.os, hfr.tape, hfr.output, hfr.size, fun b hb hn => ?_, fun b l hb hl => ?_, fun b hb => ext hb (trOwn_rest ⟨fun _ e => (by cases e), fun _ e => (by cases e)⟩), fun b hb _ => ext hb (trOwn_rest ⟨fun _ e => (by cases e), fun _ e => (by cases e)⟩), fun b n id hb => ?_, fun b hb => ?_, fun b hb h _ => ?_⟩
  · have hn' : ¬ Ow (fun b => (G.ρ b).map (trOwn rc i 0 xs)) b := by
      intro h
      refine hn fun e => h ?_
      show (G.ρ b).map _ = none
      rw [e]; rfl
    obtain ⟨h1, h2⟩ := hfr.free b hb hn'
    exact ⟨h1, outρ_none h2⟩
  · exact ext hb (trOwn_out fun h => hl (hL l h))
  · obtain ⟨hρ, c0, el0, hh0, hs0⟩ := hr.box id b n hb
    by_cases hi : id ∈ plnI xs
    · obtain ⟨k, ls, b', c, el, h1, h2, h3, h4, h5⟩ := outs_box hx ho id hi
      rw [hb] at h2
      cases h2
      rw [Nat.zero_add] at h3
      refine ⟨?_, ⟨c, el, h4, h5⟩, fun j hj => ?_⟩
      · show outρ w.heap.size G.ρ ρ' xs rl rb b = _
        rw [outρ_own h3 (by simp)]
        simp [bk, h1]
      · have hge : ls.length ≤ j := by
          rcases Nat.lt_or_ge j ls.length with h | h
          · refine absurd (hL _ ?_) hj
            have : ∀ {xs : List Pln} {p k : Nat}, xs[k]? = some (.b id ls) → Loc.box id j ∈ plnL rc i p xs := by
              intro xs
              induction xs with
              | nil => intro p k h; simp at h
              | cons x r ih =>
                intro p k hk
                rw [plnL_cons, List.mem_append]
                cases k with
                | zero =>
                  simp at hk
                  subst hk
                  exact .inl (mem_boxL.2 ⟨by omega, by omega⟩)
                | succ k => exact .inr (ih (by simpa using hk))
            exact this h1
          · exact h
        have e1 : c[j]? = none := Array.getElem?_eq_none (by omega)
        have e2 : c0[j]? = none := Array.getElem?_eq_none (by omega)
        simp [World.cell?, h4, hh0, e1, e2]
    · obtain ⟨h1, h2⟩ := ext hρ (trOwn_bx hi)
      exact ⟨h2, ⟨c0, el0, h1.trans hh0, hs0⟩, fun j _ => by simp [World.cell?, h1]⟩
  · refine hlt b fun e => ?_
    exact outρ_none (n := w.heap.size) (ρ := G.ρ) (xs := xs) (rl := rl) (rb := rb) (fun h => h e) hb
  · have h' : outρ w.heap.size G.ρ ρ' xs rl rb b = some .om := h
    cases e : ρ' b with
    | none => simp [outρ, e] at h'
    | some o =>
      by_cases ho : o = .ext
      · subst ho
        rw [outρ_ext e hb] at h'
        exact h'
      · rw [outρ_own e ho] at h'
        exact absurd h' (bk_om hrl)
/-- The step, where all was but looked at. -/
def lookρ (n : Nat) (ρ : Nat → Option Own) : Nat → Option Own := fun b => if b < n then ρ b else none
theorem look_step (hr : Rep C G N used st a w) {ρ' : Nat → Option Own} (hfr : Fr (fun _ => none) w ρ' w') (L : Loc → Prop) : Step G w G w' L := by
  have same : ∀ {b}, b < w.heap.size → w'.heap[b]? = w.heap[b]? := fun hb => (hfr.free _ hb (fun h => h rfl)).1
  have own : ∀ {b o}, G.ρ b = some o → w'.heap[b]? = w.heap[b]? := fun hb => same (hr.lt _ (show G.ρ _ ≠ none by rw [hb]; simp))
  refine ⟨fun _ _ h => h, fun _ _ h => h, hfr.os, hfr.tape, hfr.output, hfr.size, fun b hb hn => ⟨same hb, hn⟩, fun b l hb _ => ⟨own hb, hb⟩, fun b hb => ⟨own hb, hb⟩, fun b hb _ => ⟨own hb, hb⟩, fun b n id hb => ?_, fun b hb => Nat.lt_of_lt_of_le (hr.lt b hb) hfr.size, fun _ _ h _ => h⟩
  obtain ⟨hρ, c0, el0, hh0, hs0⟩ := hr.box id b n hb
  exact ⟨hρ, ⟨c0, el0, (own hρ).trans hh0, hs0⟩, fun j _ => by simp [World.cell?, own hρ]⟩

/-! ### what comes back, fact by fact -/
def OutFact (VA : Loc → Value → Prop) (ρ : Nat → Option Own) (G : Ghost) (w : World) (q : PS) (x : Pln) (ds : List DL) (v : Value) : Prop :=
  match q, x with
  | .mu s, .m l _ s' => s' = s ∧ VA l v ∧ ∃ d, ds = [d] ∧ LSRep ρ w (.at_ l) s d v
  | .bx ls, .b id ls' => ls' = ls ∧ BoxRep ρ w id ls ds v ∧ ∃ b, G.β id = some (b, ls.length) ∧ v = .pointer (some ⟨b, 0, none⟩)
  | .v _, .t _ _ => ds = []
  | .v _, .d _ => ds = []
  | .ep _, .d _ => ds = []
  | .fn, .n => ds = []
  | _, _ => False
def OutFacts (VA : Loc → Value → Prop) (ρ : Nat → Option Own) (G : Ghost) (w : World) : List PS → List Pln → List DL → List Value → Prop
  | [], xs, ds, vs => xs = [] ∧ ds = [] ∧ vs = []
  | q :: qs, xs, ds, vs => ∃ x xs' d1 d2 v vs', xs = x :: xs' ∧ ds = d1 ++ d2 ∧ vs = v :: vs' ∧ OutFact VA ρ G w q x d1 v ∧ OutFacts VA ρ G w qs xs' d2 vs'
theorem outs_facts {VA VA' : Loc → Value → Prop} {ρ ρ' ρf : Nat → Option Own} {XS : List Pln} (hVA : ∀ (k : Nat) (l : Loc) (id : Id) (s : LS) (v : Value), XS[k]? = some (Pln.m l id s) → VA l v → VA' l v) (hf : ∀ b, ¬ Ow ρ' b → ¬ Ow ρf b)
    (h1 : ∀ (p : Nat) (l : Loc) (id : Id) (s : LS) (b : Nat), XS[p]? = some (Pln.m l id s) → ρ' b = some (.at_ (.tmp p)) → ρf b = some (.at_ l)) (h2 : ∀ (p : Nat) (id : Id) (ls : List LS) (b : Nat), XS[p]? = some (Pln.b id ls) → ρ' b = some (.bx (0, 0, p)) → ρf b = some (.bx id))
    (h3 : ∀ (p : Nat) (id : Id) (ls : List LS) (j b : Nat), XS[p]? = some (Pln.b id ls) → ρ' b = some (.at_ (.box (0, 0, p) j)) → ρf b = some (.at_ (.box id j))) :
    ∀ {qs : List PS} {xs : List Pln} {ds0 ds : List DL} {vs : List Value} {p : Nat}, PlnsRep VA false ρ w rc i p qs xs ds0 vs → PlnsOk false G w qs xs vs → OutsRep ρ' w' p qs ds vs → (∀ k, xs[k]? = XS[p + k]?) → OutFacts VA' ρf G w' qs xs ds vs
  | [], _, ds0, ds, vs, p, hp, hk, ho, hx => ⟨hp.1, ho.1, ho.2⟩
  | q :: qs, _, _, ds, _, p, ⟨x, xs, e1, e2, v, vs, rfl, rfl, rfl, hx, hxs⟩, hk, ho, hX => by
    obtain ⟨d1, d2, v', vs', rfl, ev, ho1, ho2⟩ := ho
    cases ev
    have hX0 : XS[p]? = some x := by have := hX 0; simpa using this.symm
    refine ⟨x, xs, d1, d2, v, vs, rfl, rfl, rfl, ?_, outs_facts hVA hf h1 h2 h3 hxs hk.2 ho2 (fun k => by have := hX (k + 1); rw [show p + 1 + k = p + (k + 1) by omega, ← this]; simp)⟩
    cases q with
    | v s =>
      cases x with
      | d d0 => exact ho1
      | t id s' => exact ho1
      | _ => cases s <;> exact hx.elim
    | mu s =>
      cases x with
      | m l id s' =>
        obtain ⟨rfl, hs, hva, _⟩ := hx
        obtain ⟨d, e, h⟩ := ho1
        exact ⟨rfl, hVA p l id _ v hX0 hva, d, e, h.tr (fun b => h1 p l id _ b hX0) hf⟩
      | _ => exact hx.elim
    | ep t =>
      cases x with
      | d d0 => exact ho1
      | _ => exact hx.elim
    | bx ls =>
      cases x with
      | b id ls' =>
        obtain ⟨rfl, h0, _⟩ := hx
        obtain ⟨⟨_, _, b, hb, hv⟩, _⟩ := hk
        exact ⟨rfl, BoxRep.tr ho1 (fun b => h2 p id _ b hX0) (fun j _ b => h3 p id _ j b hX0) hf, b, hb, hv⟩
      | _ => exact hx.elim
    | fn =>
      cases x with
      | n => exact ho1
      | _ => exact hx.elim
end
end Go.Proofs.Ytbgefphoochgcaa.FE
/- FE, part 23: functions by contract: what comes back is put in its place. -/
namespace Go.Proofs.Ytbgefphoochgcaa.FE
open Go
set_option linter.unusedVariables false
set_option linter.unusedSimpArgs false
section
variable {Ω : Type} {C : CloRep Ω} {P : Program} {T : Tab} {N : Nat}
variable {rc i : Nat} {G : Ghost} {used used' : Id → Prop} {st ws : S Ω} {a : Act} {w w' : World} {acc rs : List Loc}

def usedF (used : Id → Prop) (rc i lo : Nat) : Id → Prop := fun id => used id ∨ ∃ s, lo ≤ s ∧ id = (rc, i, s)
theorem usedF_lt {n lo : Nat} (h : ¬ used (rc, i, n)) (hl : n < lo) : ¬ usedF used rc i lo (rc, i, n) := by
  rintro (h' | ⟨s, h1, e⟩)
  · exact h h'
  · simp only [Prod.mk.injEq, true_and] at e; omega
theorem usedF_mono {lo lo' : Nat} (h : lo' ≤ lo) : ∀ id, usedF used rc i lo id → usedF used rc i lo' id := by
  rintro id (h' | ⟨s, h1, e⟩)
  · exact .inl h'
  · exact .inr ⟨s, by omega, e⟩
theorem RepAt.of {l : Loc} {u : AV Ω} {v : Value} (h : RepAV1 C G w (some l) u v) (hv : ValAt G a w l v) : RepAt C G a w l u := by
  cases l with
  | tmp t =>
    have hv' : a.tmps.getD t undef = v := hv
    show RepAV C G w (some (.tmp t)) u (a.tmps.getD t undef)
    rw [hv']
    cases u with
    | tup vs => exact h.elim
    | _ => exact h
  | comp t n => exact .inr ⟨v, h⟩
  | box id j => obtain ⟨b, n, h1, h2⟩ := hv; exact .inr ⟨b, n, v, h1, h2, h⟩
  | om => exact hv.elim
theorem Rep.putAt (hr : Rep C G N used st a w) {l : Loc} {u : AV Ω} {v : Value} (h : RepAV1 C G w (some l) u v) (hv : ValAt G a w l v) : Rep C G N used ([(l, u)] ++ st) a w := by
  refine Rep.step (ws := [(l, u)]) hr (Step.refl' hr _) (fun l' hl => ?_) (fun _ _ => rfl) hr.size hr.defers (fun _ _ _ h => .inl h) hr.usedΓ hr.usedβ
  have : l' = l := by simpa [inL_iff] using hl
  subst this
  have e : S.get [(l', u)] l' = u := by simp [S.get, locB_self]
  rw [e]
  exact RepAt.of h hv
theorem Rep.putDead (hr : Rep C G N used st a w) {t n : Nat} : Rep C G N used ([(.comp t n, .one .dead)] ++ st) a w := by
  refine Rep.step (ws := [(.comp t n, .one .dead)]) hr (Step.refl' hr _) (fun l' hl => ?_) (fun _ _ => rfl) hr.size hr.defers (fun _ _ _ h => .inl h) hr.usedΓ hr.usedβ
  have : l' = .comp t n := by simpa [inL_iff] using hl
  subst this
  have e : S.get [(Loc.comp t n, (AV.one .dead : AV Ω))] (.comp t n) = .one .dead := by simp [S.get, locB_self]
  rw [e]
  exact .inl rfl
theorem RepL.free {at_ : Option Loc} {l : Leaf Ω} {v : Value} (h : RepL C G w none l v) : RepL C G w at_ l v := by
  cases l with
  | arr id e xs => obtain ⟨l, e, _⟩ := h; cases e
  | omp id k u m => obtain ⟨l, bs, e, _⟩ := h; cases e
  | _ => exact h
theorem cast_self {t : Ty} {x : El t} : cast? t t x = some x := by
  unfold cast?
  split
  · rfl
  · rename_i h
    have : ∀ t : Ty, t.beq t = true := by
      intro t
      induction t <;> simp_all [Ty.beq]
    rw [this t] at h; cases h
/-- One leaf. -/
theorem leaf_put {n : Nat} (hr : Rep C G N (usedF used rc i (n + 1)) st a w) (hn : ¬ used (rc, i, n)) {l : Loc} {s : LS} {d : DL} {v : Value} {x : Leaf Ω} (h : LSRep G.ρ w (.at_ l) s d v) (hv : ValAt G a w l v) (hx : leafOf (rc, i, n) s d = some x) :
    ∃ G', G'.ρ = G.ρ ∧ G'.β = G.β ∧ Moves G w G' ∧ Rep C G' N (usedF used rc i n) ([(l, .one x)] ++ st) a w := by
  have hfr := usedF_lt hn (Nat.lt_succ_self n)
  have name : ∀ bs, Rep C (G.name (rc, i, n) v bs) N (usedF used rc i n) st a w := fun bs => hr.name hfr v bs (usedF_mono (by omega)) (.inr ⟨n, by omega, rfl⟩)
  have mv : ∀ bs, Moves G w (G.name (rc, i, n) v bs) := fun bs => name_step hr hfr v bs _
  cases s with
  | dat t =>
    obtain ⟨y, rfl, hy⟩ := h
    simp only [leafOf, Option.bind_eq_some_iff] at hx
    obtain ⟨z, hz, hx⟩ := hx
    rw [cast_self] at hz
    cases hz
    have hu := unpack_rep (C := C) (Ω := Ω) (G := G.name (rc, i, n) v []) (w := w) hy
    split at hx
    · rename_i l' hl
      have hx' := Option.some.inj hx
      have hl : unpack t y = [l'] := hl
      rw [hl] at hu
      cases hu with
      | cons h1 _ =>
        rw [← hx']
        exact ⟨G.name (rc, i, n) v [], rfl, rfl, mv [], (name []).putAt (u := .one l') (v := v) h1.free hv⟩
    · cases hx
  | arr e =>
    obtain ⟨xs, rfl, ha⟩ := h
    simp only [leafOf, Option.bind_eq_some_iff] at hx
    obtain ⟨z, hz, hx⟩ := hx
    rw [cast_self] at hz
    cases hz
    cases hx
    exact ⟨G.name (rc, i, n) v [], rfl, rfl, mv [], (name []).putAt (u := .one (.arr (rc, i, n) _ xs)) (v := v) ⟨l, rfl, ⟨[], name_at⟩, ha⟩ hv⟩
  | omp k u =>
    obtain ⟨m, bs, rfl, ha⟩ := h
    simp only [leafOf, Option.bind_eq_some_iff] at hx
    obtain ⟨z, hz, hx⟩ := hx
    rw [cast_self] at hz
    cases hz
    cases hx
    exact ⟨G.name (rc, i, n) v bs, rfl, rfl, mv bs, (name bs).putAt (u := .one (.omp (rc, i, n) k u m)) (v := v) ⟨l, bs, rfl, name_at, ha⟩ hv⟩
theorem ValAt.congr {G' : Ghost} (h : G'.β = G.β) {l : Loc} {v : Value} (hv : ValAt G a w l v) : ValAt G' a w l v := by
  cases l with
  | box id j => obtain ⟨b, n, h1, h2⟩ := hv; exact ⟨b, n, by rw [h]; exact h1, h2⟩
  | _ => exact hv
theorem outB_put {id : Id} : ∀ (ls : List LS) (ds : List DL) (n j : Nat) {ws : List (Loc × AV Ω)} {G : Ghost} {st : S Ω}, Rep C G N (usedF used rc i (n + ls.length)) st a w → (∀ s, n ≤ s → ¬ used (rc, i, s)) →
    (∀ (k : Nat) (s : LS) (d : DL), ls[k]? = some s → ds[k]? = some d → ∃ u, LSRep G.ρ w (.at_ (.box id (j + k))) s d u ∧ ValAt G a w (.box id (j + k)) u) → outB rc i id n j ls ds = some ws →
    ∃ G', G'.ρ = G.ρ ∧ G'.β = G.β ∧ Moves G w G' ∧ Rep C G' N (usedF used rc i n) (ws ++ st) a w
  | [], [], n, j, ws, G, st, hr, hn, hf, h => by cases h; exact ⟨G, rfl, rfl, Step.refl' hr _, hr⟩
  | [], _ :: _, n, j, ws, G, st, hr, hn, hf, h => by cases h
  | _ :: _, [], n, j, ws, G, st, hr, hn, hf, h => by cases h
  | s :: ls, d :: ds, n, j, ws, G, st, hr, hn, hf, h => by
    simp only [outB, Option.bind_eq_some_iff] at h
    obtain ⟨x, hx, ws', hws, h⟩ := h
    cases h
    obtain ⟨G1, e1, e2, hm1, hr1⟩ := outB_put ls ds (n + 1) (j + 1) (by rw [show n + 1 + ls.length = n + (s :: ls).length by simp; omega]; exact hr) (fun s hs => hn s (by omega)) (fun k s d h1 h2 => by
      obtain ⟨u, h3⟩ := hf (k + 1) s d (by simpa using h1) (by simpa using h2)
      exact ⟨u, by rw [show j + 1 + k = j + (k + 1) by omega]; exact h3⟩) hws
    obtain ⟨u, h3, h4⟩ := hf 0 s d rfl rfl
    rw [Nat.add_zero] at h3 h4
    obtain ⟨G2, e3, e4, hm2, hr2⟩ := leaf_put hr1 (hn n (Nat.le_refl _)) (by rw [e1]; exact h3) (h4.congr e2) hx
    exact ⟨G2, e3.trans e1, e4.trans e2, hm1.moves hm2, hr2⟩
theorem OutFact.congr {G' : Ghost} (h1 : G'.ρ = G.ρ) (h2 : G'.β = G.β) {q : PS} {x : Pln} {ds : List DL} {v : Value} (h : OutFact (ValAt G a w) G.ρ G w q x ds v) : OutFact (ValAt G' a w) G'.ρ G' w q x ds v := by
  obtain ⟨Γ, β, ρ⟩ := G
  obtain ⟨Γ', β', ρ'⟩ := G'
  cases h1
  cases h2
  cases q with
  | mu s =>
    cases x with
    | m l id s' => obtain ⟨e, h1, h2⟩ := h; exact ⟨e, h1.congr rfl, h2⟩
    | _ => exact h
  | _ => cases x <;> exact h
theorem OutFact.len {VA : Loc → Value → Prop} {ρ : Nat → Option Own} {q : PS} {x : Pln} {ds : List DL} {v : Value} (h : OutFact VA ρ G w q x ds v) : ds.length = (match x with | .m _ _ _ => 1 | .b _ ls => ls.length | _ => 0) := by
  cases q with
  | mu s =>
    cases x with
    | m l id s' => obtain ⟨_, _, d, rfl, _⟩ := h; rfl
    | _ => exact h.elim
  | bx ls =>
    cases x with
    | b id ls' => obtain ⟨rfl, ⟨b, c, el, _, _, _, _, hl, _⟩, _⟩ := h; exact hl
    | _ => exact h.elim
  | v s => cases x <;> first | exact h.elim | (cases h; rfl)
  | ep t => cases x <;> first | exact h.elim | (cases h; rfl)
  | fn => cases x <;> first | exact h.elim | (cases h; rfl)
theorem outPs_put : ∀ (qs : List PS) (xs : List Pln) (ds : List DL) (vs : List Value) (p n : Nat) {ws : List (Loc × AV Ω)} {G : Ghost}, OutFacts (ValAt G a w) G.ρ G w qs xs ds vs → outPs rc i n p xs ds = some ws → Rep C G N used st a w → (∀ s, n ≤ s → ¬ used (rc, i, s)) →
    ∃ G', G'.ρ = G.ρ ∧ G'.β = G.β ∧ Moves G w G' ∧ Rep C G' N (usedF used rc i n) (ws ++ st) a w
  | [], xs, ds, vs, p, n, ws, G, hf, h, hr, hn => by
    obtain ⟨rfl, rfl, rfl⟩ := hf
    cases h
    exact ⟨G, rfl, rfl, Step.refl' hr _, hr.mono fun _ h => .inl h⟩
  | q :: qs, _, _, _, p, n, ws, G, ⟨x, xs, d1, d2, v, vs, rfl, rfl, rfl, hx, hxs⟩, h, hr, hn => by
    have hlen := hx.len
    cases x with
    | d d0 =>
      obtain rfl : d1 = [] := List.length_eq_zero_iff.1 hlen
      exact outPs_put qs xs d2 vs (p + 1) n hxs h hr hn
    | n =>
      obtain rfl : d1 = [] := List.length_eq_zero_iff.1 hlen
      exact outPs_put qs xs d2 vs (p + 1) n hxs h hr hn
    | t id s =>
      obtain rfl : d1 = [] := List.length_eq_zero_iff.1 hlen
      simp only [outPs, List.nil_append, Option.bind_eq_some_iff] at h
      obtain ⟨ws', hws, h⟩ := h
      cases h
      obtain ⟨G1, e1, e2, hm, hr1⟩ := outPs_put qs xs d2 vs (p + 1) n hxs hws hr hn
      exact ⟨G1, e1, e2, hm, hr1.putDead⟩
    | m l id s =>
      cases q with
      | mu s0 =>
        obtain ⟨rfl, hva, d, rfl, hls⟩ := hx
        simp only [List.cons_append, List.nil_append, outPs, Option.bind_eq_some_iff] at h
        obtain ⟨x, hx', ws', hws, h⟩ := h
        cases h
        obtain ⟨G1, e1, e2, hm, hr1⟩ := outPs_put qs xs d2 vs (p + 1) (n + 1) hxs hws hr (fun s hs => hn s (by omega))
        obtain ⟨G2, e3, e4, hm2, hr2⟩ := leaf_put hr1 (hn n (Nat.le_refl _)) (by rw [e1]; exact hls) (hva.congr e2) hx'
        exact ⟨G2, e3.trans e1, e4.trans e2, hm.moves hm2, hr2⟩
      | _ => exact hx.elim
    | b id ls =>
      cases q with
      | bx ls0 =>
        obtain ⟨rfl, ⟨b, c, el, hv, hρ, hh, hsz, hl, hall⟩, b', hb', hv'⟩ := hx
        rw [hv] at hv'
        cases hv'
        simp only [outPs, Option.bind_eq_some_iff] at h
        obtain ⟨ws1, hw1, ws2, hw2, h⟩ := h
        cases h
        have hl' : d1.length = ls.length := hl
        rw [← hl', List.take_left'  rfl] at hw1
        rw [← hl', List.drop_left' rfl, hl'] at hw2
        obtain ⟨G1, e1, e2, hm, hr1⟩ := outPs_put qs xs d2 vs (p + 1) (n + ls.length) hxs hw2 hr (fun s hs => hn s (by omega))
        obtain ⟨G2, e3, e4, hm2, hr2⟩ := outB_put ls d1 n 0 hr1 hn (fun k s d h1 h2 => by
          have hk : k < c.size := by rw [hsz]; exact (List.getElem?_eq_some_iff.1 h1).1
          have hc := Array.getElem?_eq_getElem hk
          rw [Nat.zero_add]
          exact ⟨c[k], by rw [e1]; exact hall k s d _ h1 h2 hc, b, ls.length, by rw [e2]; exact hb', by simp [World.cell?, hh, hc]⟩) hw1
        exact ⟨G2, e3.trans e1, e4.trans e2, hm.moves hm2, by rw [List.append_assoc]; exact hr2⟩
      | _ => exact hx.elim
end
end Go.Proofs.Ytbgefphoochgcaa.FE
/- FE, part 24: functions by contract: results. -/
namespace Go.Proofs.Ytbgefphoochgcaa.FE
open Go
set_option linter.unusedVariables false
set_option linter.unusedSimpArgs false
section
variable {Ω : Type} {C : CloRep Ω} {P : Program} {T : Tab} {N : Nat}
variable {rc i : Nat} {G : Ghost} {used used' : Id → Prop} {st ws : S Ω} {a : Act} {w w' : World} {acc rs : List Loc}

def DatRep (ρ : Nat → Option Own) (w : World) (s : LS) (d : DL) (v : Value) : Prop :=
  match s with
  | .dat t => ∃ x, d = ⟨t, x⟩ ∧ RepV w (Ow ρ) t x v
  | .arr e => ∃ xs, d = ⟨.sl e, xs⟩ ∧ RepC w (Ow ρ) (.sl e) xs [v]
  | .omp k u => ∃ m, d = ⟨.mp k u, m⟩ ∧ RepC w (Ow ρ) (.mp k u) m [v]
def ownS (s : LS) (own : Bool) : Bool := match s with | .dat _ => false | _ => own
def ResFact (ρ : Nat → Option Own) (w : World) (own : Bool) (l : Loc) (rc i k : Nat) (r : RS) (ds : List DL) (v : Value) : Prop :=
  match r with
  | .v s => ∃ d, ds = [d] ∧ (match ownS s own with | true => LSRep ρ w (.at_ l) s d v | false => DatRep ρ w s d v)
  | .bx ls => BoxRep ρ w (rc, i, k) ls ds v
def resN (own : Bool) (k : Nat) (r : RS) : Nat := match r with | .v s => (match ownS s own with | true => k + 1 | false => k) | .bx ls => k + 1 + ls.length
theorem RepAV1.of {at_ : Option Loc} {u : AV Ω} {v : Value} (hu : ∀ vs, u ≠ .tup vs) (h : RepAV C G w none u v) : RepAV1 C G w at_ u v := by
  cases u with
  | one l => exact RepL.free (C := C) (G := G) (w := w) h
  | agg ls => exact h
  | tup vs => exact absurd rfl (hu vs)
theorem avOf_ne {g : Bool} {ls : List (Leaf Ω)} : ∀ vs, avOf g ls ≠ .tup vs := by
  intro vs
  unfold avOf
  split
  · simp
  · split <;> simp
/-- A new box. -/
theorem Rep.addBox (hr : Rep C G N used st a w) {id : Id} (hid : ¬ used id) {b n : Nat} (hρ : G.ρ b = some (.bx id)) (hh : ∃ c el, w.heap[b]? = some (.cells c el (0, 0)) ∧ c.size = n) (hu : ∀ x, used x → used' x) (hi : used' id) :
    Moves G w { G with β := fun x => match idB id x with | true => some (b, n) | false => G.β x } ∧ Rep C { G with β := fun x => match idB id x with | true => some (b, n) | false => G.β x } N used' st a w := by
  have ne : ∀ {x y}, G.β x = some y → idB id x = false := by
    intro x y h
    cases e : idB id x
    · rfl
    · obtain rfl := idB_iff.1 e
      exact absurd (hr.usedβ _ (by rw [h]; simp)) hid
  have hs : ∀ L, Step G w { G with β := fun x => match idB id x with | true => some (b, n) | false => G.β x } w L := fun L =>
    ⟨fun _ _ h => h, fun x y h => by simp only [ne h]; exact h, rfl, rfl, rfl, Nat.le_refl _, Free.refl _ _, fun _ _ h _ => ⟨rfl, h⟩, fun _ h => ⟨rfl, h⟩, fun _ h _ => ⟨rfl, h⟩, fun b n x h => ⟨(hr.box x b n h).1, (hr.box x b n h).2, fun _ _ => rfl⟩, hr.lt, fun _ _ h _ => h⟩
  refine ⟨hs _, Rep.step (ws := []) hr (hs _) (fun l hl => by simp [inL] at hl) (fun _ _ => rfl) hr.size hr.defers (fun x b' n' h => ?_) (fun x h => hu x (hr.usedΓ x h)) (fun x h => ?_)⟩
  · cases e : idB id x with
    | true =>
      obtain rfl := idB_iff.1 e
      simp only [e] at h
      cases h
      exact .inr ⟨hρ, hh⟩
    | false => simp only [e] at h; exact .inl h
  · cases e : idB id x with
    | true => obtain rfl := idB_iff.1 e; exact hi
    | false => simp only [e] at h; exact hu x (hr.usedβ x h)
theorem resP_put {own : Bool} {l : Loc} {k : Nat} {r : RS} {ds : List DL} {x : Res Ω} {v : Value} (hr : Rep C G N (usedF used rc i x.n) st a w) (hn : ∀ s, k ≤ s → ¬ used (rc, i, s)) (hx : resP own l rc i k r ds = some x) (h : ResFact G.ρ w own l rc i k r ds v) :
    x.n = resN own k r ∧ ∃ G', G'.ρ = G.ρ ∧ Moves G w G' ∧ Rep C G' N (usedF used rc i k) (x.ws ++ st) a w ∧ RepAV1 C G' w (some l) x.v v ∧ RepAV1 C G' w none x.al v := by
  cases r with
  | v s =>
    obtain ⟨d, rfl, h⟩ := h
    cases s with
    | dat t =>
      obtain ⟨y, rfl, hy⟩ := h
      simp only [resP, Option.bind_eq_some_iff] at hx
      obtain ⟨z, hz, hx⟩ := hx
      rw [cast_self] at hz
      cases hz
      cases hx
      have hav : RepAV C G w none (avOf (rowB t) (unpack t y)) v := by
        unfold RepV Val at hy
        cases hb : rowB t with
        | true =>
          rw [hb] at hy
          obtain ⟨cs, rfl, hy⟩ := hy
          exact avOf_rep (unpack_rep hy) rfl
        | false =>
          rw [hb] at hy
          exact avOf_rep (unpack_rep hy) rfl
      exact ⟨rfl, G, rfl, Step.refl' hr _, hr, RepAV1.of avOf_ne hav, RepAV1.of avOf_ne hav⟩
    | arr e =>
      simp only [resP, Option.bind_eq_some_iff] at hx
      obtain ⟨z, hz, hx⟩ := hx
      cases own with
      | true =>
        obtain ⟨xs, rfl, ha⟩ := h
        rw [cast_self] at hz
        cases hz
        cases hx
        have hfr := usedF_lt (hn k (Nat.le_refl _)) (Nat.lt_succ_self k)
        have h1 := hr.name hfr v [] (used' := usedF used rc i k) (usedF_mono (Nat.le_succ k)) (.inr ⟨k, Nat.le_refl _, rfl⟩)
        exact ⟨rfl, G.name (rc, i, k) v [], rfl, name_step hr hfr v [] _, h1, ⟨l, rfl, ⟨[], name_at⟩, ha⟩, ⟨[], name_at⟩, by obtain ⟨ad, cap, rfl, _⟩ := ha.header; rfl⟩
      | false =>
        obtain ⟨xs, rfl, ha⟩ := h
        rw [cast_self] at hz
        cases hz
        cases hx
        exact ⟨rfl, G, rfl, Step.refl' hr _, hr, ha, ha⟩
    | omp kt u =>
      simp only [resP, Option.bind_eq_some_iff] at hx
      obtain ⟨z, hz, hx⟩ := hx
      cases own with
      | true =>
        obtain ⟨m, bs, rfl, ha⟩ := h
        rw [cast_self] at hz
        cases hz
        cases hx
        have hfr := usedF_lt (hn k (Nat.le_refl _)) (Nat.lt_succ_self k)
        have h1 := hr.name hfr v bs (used' := usedF used rc i k) (usedF_mono (Nat.le_succ k)) (.inr ⟨k, Nat.le_refl _, rfl⟩)
        exact ⟨rfl, G.name (rc, i, k) v bs, rfl, name_step hr hfr v bs _, h1, ⟨l, bs, rfl, name_at, ha⟩, ⟨bs, name_at⟩, by obtain ⟨b, es, clock, rfl, _⟩ := ha; rfl⟩
      | false =>
        obtain ⟨m, rfl, ha⟩ := h
        rw [cast_self] at hz
        cases hz
        cases hx
        exact ⟨rfl, G, rfl, Step.refl' hr _, hr, ha, ha⟩
  | bx ls =>
    have hx' : (outB rc i (rc, i, k) (k + 1) 0 ls ds).bind (fun ws => some (⟨.one (.ref (rc, i, k) 0 ls.length), .one (.ref (rc, i, k) 0 ls.length), ws, k + 1 + ls.length⟩ : Res Ω)) = some x := hx
    simp only [Option.bind_eq_some_iff] at hx'
    obtain ⟨ws', hws, hx'⟩ := hx'
    cases hx'
    obtain ⟨b, c, el, hv, hρ, hh, hsz, hl, hall⟩ := h
    obtain ⟨hm1, hr1⟩ := hr.addBox (id := (rc, i, k)) (used' := usedF (fun id => used id ∨ id = (rc, i, k)) rc i (k + 1 + ls.length)) (usedF_lt (hn k (Nat.le_refl _)) (show k < k + 1 + ls.length by omega)) hρ ⟨c, el, hh, hsz⟩ (by
      rintro y (h | h)
      · exact .inl (.inl h)
      · exact .inr h) (.inl (.inr rfl))
    obtain ⟨G2, e1, e2, hm2, hr2⟩ := outB_put (used := fun id => used id ∨ id = (rc, i, k)) ls ds (k + 1) 0 hr1 (by
      rintro s hs (h | h)
      · exact hn s (by omega) h
      · simp only [Prod.mk.injEq, true_and] at h; omega) (fun j s d h1 h2 => by
      have hk : j < c.size := by rw [hsz]; exact (List.getElem?_eq_some_iff.1 h1).1
      have hc := Array.getElem?_eq_getElem hk
      rw [Nat.zero_add]
      exact ⟨c[j], hall j s d _ h1 h2 hc, b, ls.length, by simp [idB_iff.2 rfl, hsz], by simp [World.cell?, hh, hc]⟩) hws
    have hβ : G2.β (rc, i, k) = some (b, ls.length) := by rw [e2]; simp [idB_iff.2 rfl, hsz]
    refine ⟨rfl, G2, e1, hm1.moves hm2, hr2.mono ?_, ⟨b, hβ, hv⟩, ⟨b, hβ, hv⟩⟩
    rintro y ((h | h) | ⟨s, h1, h2⟩)
    · exact .inl h
    · exact .inr ⟨k, by omega, h⟩
    · exact .inr ⟨s, by omega, h2⟩
def ResFacts (ρ : Nat → Option Own) (w : World) (own d rc i : Nat) : Nat → Nat → List RS → List DL → List Value → Prop
  | _, _, [], ds, vs => ds = [] ∧ vs = []
  | k, n, r :: rs, ds, vs => ∃ d1 d2 v vs', ds = d1 ++ d2 ∧ vs = v :: vs' ∧ d1.length = r.tys.length ∧ ResFact ρ w (own.testBit n) (.comp d n) rc i k r d1 v ∧ ResFacts ρ w own d rc i (resN (own.testBit n) k r) (n + 1) rs d2 vs'
theorem av1_back {at_ : Option Loc} {u : AV Ω} {v : Value} (h : RepAV1 C G w at_ u v) : avOf (aggV u) (leavesOf u) = u := by
  cases u with
  | one l => rfl
  | agg ls => rfl
  | tup vs => exact h.elim
theorem resMany_put {own d : Nat} : ∀ (rs : List RS) (ds rest : List DL) (vs : List Value) (k n : Nat) {y : ResM Ω} {G : Ghost}, resMany' own d rc i k n rs (ds ++ rest) = some y → ResFacts G.ρ w own d rc i k n rs ds vs → Rep C G N (usedF used rc i y.n) st a w → (∀ s, k ≤ s → ¬ used (rc, i, s)) →
    k ≤ y.n ∧ y.ds = rest ∧ ∃ G', G'.ρ = G.ρ ∧ Moves G w G' ∧ Rep C G' N (usedF used rc i k) (y.ws ++ st) a w ∧ All2 (fun p u => RepAV1 C G' w none (avOf p.1 p.2) u) y.vs vs
  | [], ds, rest, vs, k, n, y, G, h, hf, hr, hn => by
    obtain ⟨rfl, rfl⟩ := hf
    cases h
    exact ⟨Nat.le_refl _, rfl, G, rfl, Step.refl' hr _, hr, .nil⟩
  | r :: rs, ds, rest, vs0, k, n, y, G, h, hfs, hr, hn => by
    obtain ⟨d1, d2, v, vs, rfl, rfl, hl, hx, hxs⟩ := hfs
    simp only [resMany', Option.bind_eq_some_iff] at h
    obtain ⟨x, h1, y', h2, h⟩ := h
    cases h
    rw [List.append_assoc, ← hl, List.take_left' rfl] at h1
    rw [List.append_assoc, ← hl, List.drop_left' rfl] at h2
    have en : x.n = resN (own.testBit n) k r := by
      cases r with
      | v s =>
        obtain ⟨d0, rfl, _⟩ := hx
        cases s <;> simp only [resP, Option.bind_eq_some_iff] at h1
        · obtain ⟨z, _, h1⟩ := h1; cases h1; rfl
        · obtain ⟨z, _, h1⟩ := h1
          cases ho : own.testBit n <;> rw [ho] at h1 <;> cases h1 <;> simp [resN, ownS]
        · obtain ⟨z, _, h1⟩ := h1
          cases ho : own.testBit n <;> rw [ho] at h1 <;> cases h1 <;> simp [resN, ownS]
      | bx ls =>
        have h1' : (outB rc i (rc, i, k) (k + 1) 0 ls d1).bind (fun ws => some (⟨.one (.ref (rc, i, k) 0 ls.length), .one (.ref (rc, i, k) 0 ls.length), ws, k + 1 + ls.length⟩ : Res Ω)) = some x := h1
        simp only [Option.bind_eq_some_iff] at h1'
        obtain ⟨_, _, h1'⟩ := h1'
        cases h1'; rfl
    have hk : k ≤ x.n := by
      rw [en]
      cases r with
      | v s => simp only [resN]; split <;> omega
      | bx ls => simp only [resN]; omega
    obtain ⟨h3, h4, G1, e1, hm1, hr1, hall⟩ := resMany_put rs d2 rest vs x.n (n + 1) h2 (by rw [en]; exact hxs) hr (fun s hs => hn s (by omega))
    obtain ⟨_, G2, e2, hm2, hr2, hv, hal⟩ := resP_put hr1 hn h1 (by rw [e1]; exact hx)
    have hr3 := hr2.putAt hv (show ValAt G2 a w (.comp d n) v from trivial)
    refine ⟨by show k ≤ y'.n; omega, h4, G2, e2.trans e1, hm1.moves hm2, by simpa using hr3, .cons ?_ (hall.mono fun p u h => ?_)⟩
    · show RepAV1 C G2 w none (avOf (aggV x.al) (leavesOf x.al)) v
      rw [av1_back hal]
      exact hal
    · have hne := avOf_ne (Ω := Ω) (g := p.1) (ls := p.2)
      have h' : RepAV C G1 w none (avOf p.1 p.2) u := by
        cases hq : avOf p.1 p.2 <;> rw [hq] at h <;> first | exact h | exact h.elim
      exact RepAV1.of hne (h'.moves hm2)
end
end Go.Proofs.Ytbgefphoochgcaa.FE
/- FE, part 25: calls. -/
namespace Go.Proofs.Ytbgefphoochgcaa.FE
open Go
set_option linter.unusedVariables false
set_option linter.unusedSimpArgs false
section
variable {Ω : Type} {C : CloRep Ω} {P : Program} {T : Tab} {N : Nat}
variable {rc i : Nat} {G : Ghost} {used used' : Id → Prop} {st ws : S Ω} {a : Act} {w w' : World} {acc rs : List Loc}
variable {dst : Option Nat} {ty : Nat} {pos : String} {after : Array Edge} {guard : Option (Nat × Bool)}

theorem mkTup_un : ∀ {ts : List Ty} {ds : List DL} {x : Tup ts}, mkTup ts ds = some x → unTup ts x = ds
  | [], [], x, h => rfl
  | [], _ :: _, x, h => by cases h
  | _ :: _, [], x, h => by cases h
  | t :: ts, d :: ds, x, h => by
    simp only [mkTup, Option.bind_eq_some_iff] at h
    obtain ⟨y, hy, r, hr, h⟩ := h
    cases h
    obtain ⟨t', x'⟩ := d
    obtain ⟨e, rfl⟩ := cast_eq hy
    cases e
    have ih := mkTup_un hr
    simp only [unTup, ih]
theorem RepC_scalar {w w' : World} {O O' : Nat → Prop} : ∀ {t : Ty} {x : El t} {l : List Value}, scalar t = true → RepC w O t x l → RepC w' O' t x l := by
  intro t
  induction t with
  | pair a b ha hb =>
    rintro x l hs ⟨l1, l2, rfl, h1, h2⟩
    simp only [scalar, Bool.and_eq_true] at hs
    exact ⟨l1, l2, rfl, ha hs.1 h1, hb hs.2 h2⟩
  | st r h => intro x l hs hl; exact h hs hl
  | sl e _ => intro x l hs; cases hs
  | mp k v _ _ => intro x l hs; cases hs
  | pt t _ => intro x l hs; cases hs
  | _ => intro x l hs h; exact h
theorem outB_locs {id : Id} : ∀ {ls : List LS} {ds : List DL} {n j : Nat} {ws : List (Loc × AV Ω)}, outB rc i id n j ls ds = some ws → ws.map (·.1) = boxL id j ls.length
  | [], [], n, j, ws, h => by cases h; rfl
  | [], _ :: _, n, j, ws, h => by cases h
  | _ :: _, [], n, j, ws, h => by cases h
  | s :: ls, d :: ds, n, j, ws, h => by
    simp only [outB, Option.bind_eq_some_iff] at h
    obtain ⟨x, _, ws', hws, h⟩ := h
    cases h
    simp only [List.map_cons, outB_locs hws, List.length_cons, boxL]
theorem outPs_locs : ∀ {xs : List Pln} {ds : List DL} {n p : Nat} {ws : List (Loc × AV Ω)}, outPs rc i n p xs ds = some ws → ∀ l ∈ plnL rc i p xs, l ∈ ws.map (·.1)
  | [], ds, n, p, ws, h, l, hl => by cases hl
  | x :: r, ds, n, p, ws, h, l, hl => by
    rw [plnL_cons, List.mem_append] at hl
    cases x with
    | d d0 =>
      rcases hl with hl | hl
      · cases hl
      · exact outPs_locs (show outPs rc i n (p + 1) r ds = some ws by cases ds <;> exact h) l hl
    | n =>
      rcases hl with hl | hl
      · cases hl
      · exact outPs_locs (show outPs rc i n (p + 1) r ds = some ws by cases ds <;> exact h) l hl
    | t id s =>
      have h' : (outPs rc i n (p + 1) r ds).bind (fun ws => some ((goL rc i p, (AV.one .dead : AV Ω)) :: ws)) = some ws := by cases ds <;> exact h
      simp only [Option.bind_eq_some_iff] at h'
      obtain ⟨ws', hws, h'⟩ := h'
      cases h'
      rcases hl with hl | hl
      · obtain rfl : l = goL rc i p := by simpa [pln1] using hl
        simp
      · exact List.mem_cons_of_mem _ (outPs_locs hws l hl)
    | m l' id s =>
      cases ds with
      | nil => cases h
      | cons d ds =>
        simp only [outPs, Option.bind_eq_some_iff] at h
        obtain ⟨x, _, ws', hws, h⟩ := h
        cases h
        rcases hl with hl | hl
        · obtain rfl : l = l' := by simpa [pln1] using hl
          simp
        · exact List.mem_cons_of_mem _ (outPs_locs hws l hl)
    | b id ls =>
      have h' : (outB rc i id n 0 ls (ds.take ls.length)).bind (fun ws1 => (outPs rc i (n + ls.length) (p + 1) r (ds.drop ls.length)).bind fun ws' => some (ws1 ++ ws')) = some ws := by cases ds <;> exact h
      simp only [Option.bind_eq_some_iff] at h'
      obtain ⟨ws1, hw1, ws2, hw2, h'⟩ := h'
      cases h'
      rw [List.map_append, List.mem_append]
      rcases hl with hl | hl
      · left; rw [outB_locs hw1]; exact hl
      · exact .inr (outPs_locs hw2 l hl)
def deadAll (ws : List (Loc × AV Ω)) : List (Loc × AV Ω) := ws.map fun p => (p.1, .one .dead)
theorem deadAll_fst {ws : List (Loc × AV Ω)} : (deadAll ws).map (·.1) = ws.map (·.1) := by simp [deadAll, Function.comp_def]
theorem get_deadAll : ∀ {ws : List (Loc × AV Ω)} {l : Loc}, S.get (deadAll ws) l = .one .dead
  | [], l => rfl
  | p :: r, l => by
    show (match locB p.1 l with | true => (AV.one .dead : AV Ω) | false => S.get (deadAll r) l) = _
    split
    · rfl
    · exact get_deadAll
theorem RepAt.dead' {l : Loc} : RepAt C G a w l (.one .dead : AV Ω) := by
  cases l with
  | tmp t => exact trivial
  | _ => exact .inl rfl
theorem Rep.putR (hr : Rep C G N used st a w) {l : Loc} {u : AV Ω} (h : RepAt C G a w l u) : Rep C G N used ([(l, u)] ++ st) a w := by
  refine Rep.step (ws := [(l, u)]) hr (Step.refl' hr _) (fun l' hl => ?_) (fun _ _ => rfl) hr.size hr.defers (fun _ _ _ h => .inl h) hr.usedΓ hr.usedβ
  have : l' = l := by simpa [inL_iff] using hl
  subst this
  have e : S.get [(l', u)] l' = u := by simp [S.get, locB_self]
  rw [e]
  exact h
/-- What is told of the results. -/
def ResOut (ρ : Nat → Option Own) (w : World) (own rc i n : Nat) (dst : Option Nat) (rs : List RS) (ds : List DL) (v : Value) : Prop :=
  match rs with
  | [] => ds = []
  | [r] => ds.length = r.tys.length ∧ ∀ d, dst = some d → ResFact ρ w (own.testBit 0) (.tmp d) rc i n r ds v
  | rs => ∀ d, dst = some d → ∃ us : Array Value, v = .tuple us ∧ ResFacts ρ w own d rc i n 0 rs ds us.toList
theorem call_out (hr : Rep C G N used st a w) (hd : ∀ d, dst = some d → d < N) {Gρ : Ghost} {xs : List Pln} {qs : List PS} {vs : List Value} {sg : Sig} {own n : Nat} {d1 d2 : List DL} {v : Value}
    (hs : ∀ L : Loc → Prop, (∀ l ∈ plnL rc i 0 xs, L l) → Step G w Gρ w' L) (hΓ : Gρ.Γ = G.Γ) (hβ : Gρ.β = G.β) (hof : OutFacts (ValAt Gρ (a.put dst v) w') Gρ.ρ Gρ w' qs xs d2 vs)
    (hrf : ResOut Gρ.ρ w' own rc i n dst sg.res d1 v) (hcr : callR sg own rc i dst n xs (d1 ++ d2) = some ws) (hn : ∀ s, n ≤ s → ¬ used (rc, i, s)) :
    ∃ G', Fr Gρ.ρ w' G'.ρ w' ∧ Rep C G' N (usedF used rc i n) (ws ++ st) (a.put dst v) w' := by
  -- the places that are written; what is told of each
  have start : (∀ l ∈ plnL rc i 0 xs, l ∈ ws.map (·.1)) → (∀ d, dst = some d → Loc.tmp d ∈ ws.map (·.1)) → Rep C Gρ N used (deadAll ws ++ st) (a.put dst v) w' := by
    intro h1 h2
    refine Rep.step (ws := deadAll ws) hr (hs _ fun l hl => ?_) (fun l hl => ?_) (fun t ht => ?_) (put_size.trans hr.size) (put_defers.trans hr.defers) (fun id b n h => .inl (by rw [hβ] at h; exact h)) (fun id h => hr.usedΓ id (by rw [hΓ] at h; exact h)) (fun id h => hr.usedβ id (by rw [hβ] at h; exact h))
    · rw [deadAll_fst]; exact inL_iff.2 (h1 l hl)
    · rw [get_deadAll]; exact RepAt.dead'
    · cases hdst : dst with
      | none => rfl
      | some d =>
        refine getD_put_ne fun e => ?_
        subst e
        rw [deadAll_fst, inL_iff.2 (h2 d hdst)] at ht
        cases ht
  have fin : ∀ {G' : Ghost} {lo : Nat}, Moves Gρ w' G' → Rep C G' N (usedF used rc i n) (ws ++ (deadAll ws ++ st)) (a.put dst v) w' → ∃ G', Fr Gρ.ρ w' G'.ρ w' ∧ Rep C G' N (usedF used rc i n) (ws ++ st) (a.put dst v) w' := by
    intro G' lo hm h
    refine ⟨G', hm.fr, h.congr fun l => ?_⟩
    rw [get_append, get_append (st := deadAll ws ++ st)]
    split
    · rfl
    · rename_i hl
      rw [get_out]
      rw [deadAll_fst]
      simpa using hl
  obtain ⟨pars, res⟩ := sg
  match res, hrf, hcr with
  | [], hrf, hcr =>
    obtain rfl : d1 = [] := hrf
    have hcr' : (outPs rc i n 0 xs d2).bind (fun ws => some ((match dst with | some d => [(Loc.tmp d, (AV.one .dead : AV Ω))] | none => []) ++ ws)) = some ws := hcr
    simp only [Option.bind_eq_some_iff] at hcr'
    obtain ⟨wo, hwo, e⟩ := hcr'
    have e := Option.some.inj e
    have hst := start (fun l hl => by rw [← e, List.map_append]; exact List.mem_append.2 (.inr (outPs_locs hwo l hl))) (fun d hd => by rw [← e, hd]; simp)
    obtain ⟨G1, e1, e2, hm, hr1⟩ := outPs_put qs xs d2 vs 0 n hof hwo hst hn
    refine fin (lo := 0) hm ?_
    rw [← e]
    rw [← e] at hr1
    cases dst with
    | none => exact hr1
    | some d => rw [List.append_assoc]; exact hr1.putR RepAt.dead'
  | [r], hrf, hcr =>
    obtain ⟨hl, hrf⟩ := hrf
    cases dst with
    | none =>
      have hcr' : (outPs rc i n 0 xs ((d1 ++ d2).drop r.tys.length)).bind (fun ws => some ws) = some ws := hcr
      rw [← hl, List.drop_left' rfl] at hcr'
      simp only [Option.bind_eq_some_iff] at hcr'
      obtain ⟨wo, hwo, e⟩ := hcr'
      cases e
      have hst := start (fun l hl => outPs_locs hwo l hl) (fun d hd => by cases hd)
      obtain ⟨G1, e1, e2, hm, hr1⟩ := outPs_put qs xs d2 vs 0 n hof hwo hst hn
      exact fin (lo := 0) hm hr1
    | some d =>
      have hcr' : (resP (own.testBit 0) (.tmp d) rc i n r ((d1 ++ d2).take r.tys.length)).bind (fun x => (outPs rc i x.n 0 xs ((d1 ++ d2).drop r.tys.length)).bind fun ws => some ((.tmp d, x.v) :: x.ws ++ ws)) = some ws := hcr
      rw [← hl, List.take_left' rfl, List.drop_left' rfl] at hcr'
      simp only [Option.bind_eq_some_iff] at hcr'
      obtain ⟨x, hx, wo, hwo, e⟩ := hcr'
      have e := Option.some.inj e
      have hst := start (fun l hl => by rw [← e]; simp only [List.cons_append, List.map_cons, List.map_append]; exact List.mem_cons_of_mem _ (List.mem_append.2 (.inr (outPs_locs hwo l hl)))) (fun d' hd => by cases hd; rw [← e]; simp)
      have hxn : n ≤ x.n := by
        have : ∀ {x : Res Ω}, resP (own.testBit 0) (.tmp d) rc i n r d1 = some x → n ≤ x.n := by
          intro x hx
          cases r with
          | v s =>
            obtain ⟨d0, rfl, _⟩ := hrf d rfl
            cases s <;> simp only [resP, Option.bind_eq_some_iff] at hx
            · obtain ⟨z, _, h1⟩ := hx; cases h1; exact Nat.le_refl _
            · obtain ⟨z, _, h1⟩ := hx
              cases ho : own.testBit 0 <;> rw [ho] at h1 <;> cases h1 <;> simp
            · obtain ⟨z, _, h1⟩ := hx
              cases ho : own.testBit 0 <;> rw [ho] at h1 <;> cases h1 <;> simp
          | bx ls =>
            have h1' : (outB rc i (rc, i, n) (n + 1) 0 ls d1).bind (fun ws => some (⟨.one (.ref (rc, i, n) 0 ls.length), .one (.ref (rc, i, n) 0 ls.length), ws, n + 1 + ls.length⟩ : Res Ω)) = some x := hx
            simp only [Option.bind_eq_some_iff] at h1'
            obtain ⟨_, _, h1'⟩ := h1'
            cases h1'; show n ≤ n + 1 + ls.length; omega
        exact this hx
      obtain ⟨G1, e1, e2, hm, hr1⟩ := outPs_put qs xs d2 vs 0 x.n hof hwo hst (fun s hs => hn s (by omega))
      obtain ⟨_, G2, e3, hm2, hr2, hv, _⟩ := resP_put hr1 hn hx (by rw [e1]; exact hrf d rfl)
      have hd' : d < a.tmps.size := by rw [hr.size]; exact hd d rfl
      have hr3 := hr2.putAt hv (show ValAt G2 (a.put (some d) v) w' (.tmp d) v from getD_put hd')
      refine fin (lo := 0) (hm.moves hm2) ?_
      rw [← e]
      rw [← e] at hr3
      simpa using hr3
  | r1 :: r2 :: rs, hrf, hcr =>
    cases dst with
    | none => cases hcr
    | some d =>
      have hcr' : (resMany' own d rc i n 0 (r1 :: r2 :: rs) (d1 ++ d2)).bind (fun y => (outPs rc i y.n 0 xs y.ds).bind fun ws => some ((.tmp d, .tup y.vs) :: y.ws ++ ws)) = some ws := hcr
      simp only [Option.bind_eq_some_iff] at hcr'
      obtain ⟨y, hy, wo, hwo, e⟩ := hcr'
      have e := Option.some.inj e
      obtain ⟨us, ev, hrf⟩ := hrf d rfl
      have hst := start (fun l hl => by rw [← e]; simp only [List.cons_append, List.map_cons, List.map_append]; exact List.mem_cons_of_mem _ (List.mem_append.2 (.inr (outPs_locs hwo l hl)))) (fun d' hd => by cases hd; rw [← e]; simp)
      have hyn : n ≤ y.n ∧ y.ds = d2 := by
        obtain ⟨h1, h2, _⟩ := resMany_put (G := Gρ) (C := C) (used := used) (st := deadAll ws ++ st) (a := a.put (some d) v) (w := w') (N := N) (r1 :: r2 :: rs) d1 d2 us.toList n 0 hy hrf (hst.mono fun _ h => .inl h) hn
        exact ⟨h1, h2⟩
      rw [hyn.2] at hwo
      obtain ⟨G1, e1, e2, hm, hr1⟩ := outPs_put qs xs d2 vs 0 y.n hof hwo hst (fun s hs => hn s (by omega))
      obtain ⟨_, _, G2, e3, hm2, hr2, hall⟩ := resMany_put (r1 :: r2 :: rs) d1 d2 us.toList n 0 hy (by rw [e1]; exact hrf) hr1 hn
      have hd' : d < a.tmps.size := by rw [hr.size]; exact hd d rfl
      have hr3 := hr2.putR (l := .tmp d) (u := .tup y.vs) (show RepAV C G2 w' (some (.tmp d)) (.tup y.vs) ((a.put (some d) v).tmps.getD d undef) by rw [getD_put hd']; exact ⟨us, ev, hall⟩)
      refine fin (lo := 0) (hm.moves hm2) ?_
      rw [← e]
      rw [← e] at hr3
      simpa using hr3
end
end Go.Proofs.Ytbgefphoochgcaa.FE
/- FE, part 26: a call does what the contract says. -/
namespace Go.Proofs.Ytbgefphoochgcaa.FE
open Go
set_option linter.unusedVariables false
set_option linter.unusedSimpArgs false
section
variable {Ω : Type} {C : CloRep Ω} {P : Program} {T : Tab} {N : Nat}
variable {rc i : Nat} {G : Ghost} {used used' : Id → Prop} {st ws : S Ω} {a : Act} {w w' : World} {acc rs : List Loc}
variable {dst : Option Nat} {ty : Nat} {pos : String} {after : Array Edge} {guard : Option (Nat × Bool)}

theorem LSRep.dat {ρ ρ' : Nat → Option Own} {o : Own} {s : LS} {d : DL} {v : Value} (hs : datS s = false) (h : LSRep ρ w o s d v) (hf : ∀ b, ¬ Ow ρ b → ¬ Ow ρ' b) (ho : ∀ b, ρ b = some o → ¬ Ow ρ' b) : DatRep ρ' w s d v := by
  have hfree : Free w (Ow ρ) w (Ow ρ') := fun b _ h => ⟨rfl, hf b h⟩
  cases s with
  | dat t => cases hs
  | arr e =>
    obtain ⟨xs, e, h⟩ := h
    refine ⟨xs, e, ?_⟩
    rcases h with ⟨rfl, rfl⟩ | ⟨b, off, cap, c, el, rfl, hc, hρ, hh, hsz, hx⟩
    · exact ⟨none, 0, rfl, Nat.le_refl _, fun h => absurd rfl h⟩
    · refine ⟨_, cap, rfl, hc, fun _ => ⟨b, off, rfl, ho b hρ, fun j hj => ?_⟩⟩
      obtain ⟨vs, hr, hat⟩ := hx j hj
      exact ⟨vs, hr.mono hfree, c, el, _, hh, hat⟩
  | omp k u =>
    obtain ⟨m, bs, e, b, es, clock, rfl, hρ, hh, hsz, _, hx, _⟩ := h
    refine ⟨m, e, some b, rfl, .inr ⟨b, es, clock, rfl, ho b hρ, hh, hsz, fun j hj => ?_⟩⟩
    obtain ⟨en, he, h1, h2⟩ := hx j hj
    exact ⟨en, he, h1.mono hfree, h2.mono hfree⟩
theorem ResRep.fact {ρ' ρf : Nat → Option Own} {n k : Nat} {r : RS} {ds : List DL} {v : Value} {own : Bool} {l : Loc} (h : ResRep ρ' w n r ds v) (hf : ∀ b, ¬ Ow ρ' b → ¬ Ow ρf b)
    (h1 : own = true → ∀ b, ρ' b = some (.at_ (.comp 0 n)) → ρf b = some (.at_ l)) (h2 : own = false → ∀ b, ρ' b = some (.at_ (.comp 0 n)) → ¬ Ow ρf b)
    (h3 : ∀ b, ρ' b = some (.bx (0, 1, n)) → ρf b = some (.bx (rc, i, k))) (h4 : ∀ j b, ρ' b = some (.at_ (.box (0, 1, n) j)) → ρf b = some (.at_ (.box (rc, i, k) j))) : ResFact ρf w own l rc i k r ds v := by
  cases r with
  | v s =>
    cases s with
    | dat t =>
      obtain ⟨x, e, h⟩ := h
      exact ⟨_, e, x, rfl, RepV.mono (fun b _ h => ⟨rfl, hf b h⟩) h⟩
    | _ =>
      obtain ⟨d, e, h⟩ := h
      refine ⟨d, e, ?_⟩
      cases own with
      | true => exact h.tr (h1 rfl) hf
      | false => exact h.dat rfl hf (h2 rfl)
  | bx ls => exact h.tr h3 (fun j _ b => h4 j b) hf
theorem ResRep.len {ρ : Nat → Option Own} {n : Nat} {r : RS} {ds : List DL} {v : Value} (h : ResRep ρ w n r ds v) : ds.length = r.tys.length := by
  cases r with
  | v s => cases s <;> (obtain ⟨x, rfl, _⟩ := h; rfl)
  | bx ls => obtain ⟨b, c, el, _, _, _, _, hl, _⟩ := h; rw [hl]; simp [RS.tys]
/-- The number of the new id with which a result begins. -/
def kAt (own : Nat) : Nat → Nat → List RS → Nat → Nat
  | k, _, [], _ => k
  | k, _, _ :: _, 0 => k
  | k, n, r :: rs, j + 1 => kAt own (resN (own.testBit n) k r) (n + 1) rs j
def rlOf (own : Nat) (dst : Option Nat) (single : Bool) (n : Nat) : Option Own :=
  match dst, own.testBit n with
  | some d, true => some (.at_ (match single with | true => .tmp d | false => .comp d n))
  | _, _ => none
theorem ResList.facts {ρ' ρf : Nat → Option Own} {own d n0 : Nat} {RS0 : List RS} (hf : ∀ b, ¬ Ow ρ' b → ¬ Ow ρf b)
    (h1 : ∀ n b, own.testBit n = true → ρ' b = some (.at_ (.comp 0 n)) → ρf b = some (.at_ (.comp d n))) (h2 : ∀ n b, own.testBit n = false → ρ' b = some (.at_ (.comp 0 n)) → ¬ Ow ρf b)
    (h3 : ∀ n b, ρ' b = some (.bx (0, 1, n)) → ρf b = some (.bx (rc, i, kAt own n0 0 RS0 n))) (h4 : ∀ n j b, ρ' b = some (.at_ (.box (0, 1, n) j)) → ρf b = some (.at_ (.box (rc, i, kAt own n0 0 RS0 n) j))) :
    ∀ (rs : List RS) (n k : Nat) (ds : List DL) (vs : List Value), (∀ j, kAt own k n rs j = kAt own n0 0 RS0 (n + j) ∨ rs.length ≤ j) → ResList ρ' w n rs ds vs → ResFacts ρf w own d rc i k n rs ds vs
  | [], n, k, ds, vs, hk, h => h
  | r :: rs, n, k, ds, vs, hk, h => by
    obtain ⟨d1, d2, v, vs', rfl, rfl, hr, hrs⟩ := h
    have hk0 : kAt own n0 0 RS0 n = k := by
      rcases hk 0 with h | h
      · exact h.symm
      · simp at h
    refine ⟨d1, d2, v, vs', rfl, rfl, hr.len, hr.fact hf (fun e b => h1 n b e) (fun e b => h2 n b e) (by rw [← hk0]; exact h3 n) (by rw [← hk0]; exact h4 n), ResList.facts hf h1 h2 h3 h4 rs (n + 1) _ d2 vs' (fun j => ?_) hrs⟩
    rcases hk (j + 1) with h | h
    · exact .inl (by rw [show n + 1 + j = n + (j + 1) by omega]; exact h)
    · exact .inr (by simpa using h)
def singleR : List RS → Bool | [_] => true | _ => false
/-- The results, told for the caller. -/
theorem ResAll.out {ρ' ρf : Nat → Option Own} {own n0 : Nat} {rs : List RS} {ds : List DL} {v : Value} (h : ResAll ρ' w rs ds v) (hf : ∀ b, ¬ Ow ρ' b → ¬ Ow ρf b)
    (hb : ∀ b o, ρ' b = some o → o ≠ .ext → (∀ n, o = .at_ (.comp 0 n) → ρf b = rlOf own dst (singleR rs) n) ∧ (∀ n, o = .bx (0, 1, n) → ρf b = some (.bx (rc, i, kAt own n0 0 rs n))) ∧ (∀ n j, o = .at_ (.box (0, 1, n) j) → ρf b = some (.at_ (.box (rc, i, kAt own n0 0 rs n) j)))) :
    ResOut ρf w own rc i n0 dst rs ds v := by
  have h3 : ∀ n b, ρ' b = some (.bx (0, 1, n)) → ρf b = some (.bx (rc, i, kAt own n0 0 rs n)) := fun n b h => (hb b _ h (by simp)).2.1 n rfl
  have h4 : ∀ n j b, ρ' b = some (.at_ (.box (0, 1, n) j)) → ρf b = some (.at_ (.box (rc, i, kAt own n0 0 rs n) j)) := fun n j b h => (hb b _ h (by simp)).2.2 n j rfl
  have h5 : ∀ n b, ρ' b = some (.at_ (.comp 0 n)) → ρf b = rlOf own dst (singleR rs) n := fun n b h => (hb b _ h (by simp)).1 n rfl
  clear hb
  match rs, h, h3, h4, h5 with
  | [], h, _, _, _ => exact h
  | [r], h, h3, h4, h5 =>
    have h' : ResRep ρ' w 0 r ds v := h
    refine ⟨h'.len, fun d hd => h'.fact hf (fun ho b e => ?_) (fun ho b e => ?_) (h3 0) (h4 0)⟩
    · rw [h5 0 b e]; simp [rlOf, hd, ho, singleR]
    · show ¬ (ρf b ≠ none)
      rw [h5 0 b e]; simp [rlOf, hd, ho]
  | r1 :: r2 :: rs, h, h3, h4, h5 =>
    obtain ⟨us, ev, h⟩ := h
    refine fun d hd => ⟨us, ev, ResList.facts hf (fun n b ho e => ?_) (fun n b ho e => ?_) h3 h4 _ 0 n0 ds us.toList (fun j => .inl (by rw [Nat.zero_add])) h⟩
    · rw [h5 n b e]; simp [rlOf, hd, ho, singleR]
    · show ¬ (ρf b ≠ none)
      rw [h5 n b e]; simp [rlOf, hd, ho]
theorem mem_plnL : ∀ {xs : List Pln} {p k : Nat} {x : Pln}, xs[k]? = some x → ∀ l ∈ pln1 rc i (p + k) x, l ∈ plnL rc i p xs
  | [], p, k, x, h, l, hl => by simp at h
  | y :: r, p, k, x, h, l, hl => by
    rw [plnL_cons, List.mem_append]
    cases k with
    | zero =>
      simp at h
      subst h
      exact .inl hl
    | succ k => exact .inr (mem_plnL (p := p + 1) (k := k) (by simpa using h) l (by rw [show p + 1 + k = p + (k + 1) by omega]; exact hl))
theorem two {l : Loc} : ∀ {xs : List Pln} {p k1 k2 : Nat} {x y : Pln}, distL (plnL rc i p xs) = true → xs[k1]? = some x → xs[k2]? = some y → k1 ≠ k2 → l ∈ pln1 rc i (p + k1) x → l ∈ pln1 rc i (p + k2) y → False
  | [], p, k1, k2, x, y, hd, h1, _, _, _, _ => by simp at h1
  | z :: r, p, k1, k2, x, y, hd, h1, h2, hne, hx, hy => by
    rw [plnL_cons] at hd
    obtain ⟨hd1, hd2⟩ := distL_split hd
    cases k1 with
    | zero =>
      cases k2 with
      | zero => exact hne rfl
      | succ k2 =>
        simp at h1
        subst h1
        exact hd1 l hx (mem_plnL (p := p + 1) (k := k2) (by simpa using h2) l (by rw [show p + 1 + k2 = p + (k2 + 1) by omega]; exact hy))
    | succ k1 =>
      cases k2 with
      | zero =>
        simp at h2
        subst h2
        exact hd1 l hy (mem_plnL (p := p + 1) (k := k1) (by simpa using h1) l (by rw [show p + 1 + k1 = p + (k1 + 1) by omega]; exact hx))
      | succ k2 =>
        exact two (l := l) hd2 (k1 := k1) (k2 := k2) (by simpa using h1) (by simpa using h2) (by omega) (by rw [show p + 1 + k1 = p + (k1 + 1) by omega]; exact hx) (by rw [show p + 1 + k2 = p + (k2 + 1) by omega]; exact hy)
theorem plnI_box {sc : Bool} : ∀ {qs : List PS} {xs : List Pln} {vs : List Value}, PlnsOk sc G w qs xs vs → ∀ id ∈ plnI xs, ∃ (k : Nat) (ls : List LS) (b : Nat), xs[k]? = some (Pln.b id ls) ∧ G.β id = some (b, ls.length)
  | [], [], vs, _, id, hi => by cases hi
  | [], _ :: _, _, h, _, _ => h.elim
  | _ :: _, [], _, h, _, _ => h.elim
  | _ :: _, _ :: _, [], h, _, _ => h.elim
  | q :: qs, x :: xs, v :: vs, h, id, hi => by
    have tail : id ∈ plnI xs → ∃ (k : Nat) (ls : List LS) (b : Nat), (x :: xs)[k]? = some (Pln.b id ls) ∧ G.β id = some (b, ls.length) := by
      intro hi
      obtain ⟨k, ls, b, h1, h2⟩ := plnI_box h.2 id hi
      exact ⟨k + 1, ls, b, by simpa using h1, h2⟩
    cases x with
    | b id' ls =>
      simp only [plnI, List.mem_cons] at hi
      rcases hi with rfl | hi
      · cases q with
        | bx ls0 => obtain ⟨⟨rfl, h0, b, hb, hv⟩, _⟩ := h; exact ⟨0, _, b, rfl, hb⟩
        | v s => cases s <;> exact h.1.elim
        | _ => exact h.1.elim
      · exact tail hi
    | _ => exact tail hi
theorem outs_look {VA : Loc → Value → Prop} {ρ' ρf : Nat → Option Own} {G' : Ghost} : ∀ {qs : List PS} {xs : List Pln} {ds : List DL} {vs : List Value} {p : Nat}, allB plainS qs = true → PlnsOk true G w qs xs vs → OutsRep ρ' w' p qs ds vs → OutFacts VA ρf G' w' qs xs ds vs
  | [], [], ds, vs, p, _, h, ho => ⟨rfl, ho.1, ho.2⟩
  | [], _ :: _, _, _, _, _, h, _ => h.elim
  | _ :: _, [], _, _, _, _, h, _ => h.elim
  | _ :: _, _ :: _, _, [], _, _, h, _ => h.elim
  | q :: qs, x :: xs, ds, v :: vs, p, hq, h, ho => by
    obtain ⟨d1, d2, v', vs', rfl, ev, ho1, ho2⟩ := ho
    cases ev
    simp only [allB] at hq
    split at hq
    · rename_i hp
      refine ⟨x, xs, d1, d2, v, vs, rfl, rfl, rfl, ?_, outs_look hq h.2 ho2⟩
      obtain ⟨h, _⟩ := h
      cases q with
      | v s =>
        cases s with
        | dat t =>
          cases x with
          | d d0 => exact ho1
          | t id s' => obtain ⟨_, h, _⟩ := h; cases h
          | _ => exact h.elim
        | _ => cases hp
      | ep t =>
        cases x with
        | d d0 => exact ho1
        | _ => exact h.elim
      | _ => cases hp
    · cases hq
end
end Go.Proofs.Ytbgefphoochgcaa.FE
/- FE, part 27: calls, done. -/
namespace Go.Proofs.Ytbgefphoochgcaa.FE
open Go
set_option linter.unusedVariables false
set_option linter.unusedSimpArgs false
section
variable {Ω : Type} {C : CloRep Ω} {P : Program} {T : Tab} {N : Nat}
variable {rc i : Nat} {dst : Option Nat} {ty : Nat} {pos : String} {after : Array Edge} {guard : Option (Nat × Bool)}
variable {w w' : World}

theorem ResRep.look {ρ ρf : Nat → Option Own} {own : Bool} {l : Loc} {n k : Nat} {r : RS} {ds : List DL} {v : Value} (hl : lookR r = true) (h : ResRep ρ w n r ds v) : ResFact ρf w own l rc i k r ds v := by
  cases r with
  | v s =>
    cases s with
    | dat t =>
      obtain ⟨x, e, h⟩ := h
      exact ⟨_, e, x, rfl, Val.mono h fun _ => RepC_scalar hl⟩
    | _ => cases hl
  | bx ls => cases hl
theorem ResList.look {ρ ρf : Nat → Option Own} {own d : Nat} : ∀ {rs : List RS} {n k : Nat} {ds : List DL} {vs : List Value}, allB lookR rs = true → ResList ρ w n rs ds vs → ResFacts ρf w own d rc i k n rs ds vs
  | [], n, k, ds, vs, _, h => h
  | r :: rs, n, k, ds, vs, hl, h => by
    obtain ⟨d1, d2, v, vs', rfl, rfl, h1, h2⟩ := h
    simp only [allB] at hl
    split at hl
    · rename_i hr
      exact ⟨d1, d2, v, vs', rfl, rfl, h1.len, h1.look hr, ResList.look hl h2⟩
    · cases hl
theorem ResAll.look {ρ ρf : Nat → Option Own} {own n : Nat} {rs : List RS} {ds : List DL} {v : Value} (hl : allB lookR rs = true) (h : ResAll ρ w rs ds v) : ResOut ρf w own rc i n dst rs ds v := by
  match rs, hl, h with
  | [], _, h => exact h
  | [r], hl, h =>
    have h' : ResRep ρ w 0 r ds v := h
    simp only [allB] at hl
    split at hl
    · rename_i hr; exact ⟨h'.len, fun d _ => h'.look hr⟩
    · cases hl
  | r1 :: r2 :: rs, hl, h =>
    obtain ⟨us, ev, h⟩ := h
    exact fun d _ => ⟨us, ev, ResList.look hl h⟩
theorem OutFacts.ghost {VA : Loc → Value → Prop} {ρ : Nat → Option Own} {G G' : Ghost} (hβ : G'.β = G.β) : ∀ {qs : List PS} {xs : List Pln} {ds : List DL} {vs : List Value}, OutFacts VA ρ G w qs xs ds vs → OutFacts VA ρ G' w qs xs ds vs
  | [], xs, ds, vs, h => h
  | q :: qs, xs, ds, vs, h => by
    obtain ⟨x, xs', d1, d2, v, vs', e1, e2, e3, h1, h2⟩ := h
    refine ⟨x, xs', d1, d2, v, vs', e1, e2, e3, ?_, OutFacts.ghost hβ h2⟩
    obtain ⟨Γ, β, ρ1⟩ := G
    obtain ⟨Γ', β', ρ2⟩ := G'
    cases hβ
    cases q <;> cases x <;> exact h1
theorem rlOf_om {own : Nat} {dst : Option Nat} {s : Bool} : ∀ n, rlOf own dst s n ≠ some .om := by
  intro n
  unfold rlOf
  split <;> simp
/-- A call, where who owns what is told for the length of it: the arguments that are handed over are 'vs' (more, it may be, than the function's own). -/
theorem call_main {o : Oper} {G1 : Ghost} {st ws : S Ω} {a : Act} {K : Act → World → Prop} {Q : Exit → Act → World → Prop} {qs : List PS} {rsg : List RS} {xs : List Pln} {vs : List Value} {ds dout : List DL} {f own n : Nat} {args : Array Value} {used2 : Id → Prop}
    (hd : ∀ d, o.dst = some d → d < N) (hr1 : Rep C G1 N used2 st a w) (hx : PlnsOk false G1 w qs xs vs) (hp : PlnsRep (ValAt G1 a w) false G1.ρ w rc i 0 qs xs ds vs) (hdist : distL (dstL o.dst ++ plnL rc i 0 xs) = true)
    (hrun : (execOp a.eval o).run P w = .ok (.enter f args) w) {sg : Sig} (hsg : sg.res = rsg) (hcr : callR sg own rc i o.dst n xs dout = some ws) (hn : ∀ s, n ≤ s → ¬ used2 (rc, i, s)) {used3 : Id → Prop} (hus : ∀ id, usedF used2 rc i n id → used3 id)
    (hcall : ∀ ρ, (∀ b, Ow ρ b → b < w.heap.size) → ParsRep ρ w 0 qs ds vs → Calls P f args w fun e w' => ∃ v ρ', e = .returned v ∧ Fr ρ w ρ' w' ∧ (∀ b, Ow ρ' b → b < w'.heap.size) ∧ ∃ d1 d2, dout = d1 ++ d2 ∧ ResAll ρ' w' rsg d1 v ∧ OutsRep ρ' w' 0 qs d2 vs)
    (hK : ∀ G' a' w', Fr G1.ρ w G'.ρ w' → Rep C G' N used3 (ws ++ st) a' w' → K a' w') : o.wp P a w K Q := by
  subst hsg
  obtain ⟨dst, op, ty, pos, after, guard⟩ := o
  obtain ⟨hdis, hdl⟩ := distL_split hdist
  unfold Oper.wp
  rw [hrun, Oper.upon_enter]
  have hfe : ∀ b, ¬ Ow G1.ρ b → ¬ Ow (fun b => (G1.ρ b).map (trOwn rc i 0 xs)) b := by
    intro b h h'
    refine h fun e => h' ?_
    show (G1.ρ b).map _ = none
    rw [e]; rfl
  have hlt0 : ∀ b, Ow (fun b => (G1.ρ b).map (trOwn rc i 0 xs)) b → b < w.heap.size := fun b h => hr1.lt b fun e => hfe b (fun h' => h' e) h
  refine (hcall (fun b => (G1.ρ b).map (trOwn rc i 0 xs)) hlt0
    (pars_in hfe hp hdl (fun l _ b hb => by show (G1.ρ b).map _ = _; rw [hb]; rfl) (fun l _ b hb => by show (G1.ρ b).map _ = _; rw [hb]; rfl))).mono ?_
  rintro e w' ⟨v, ρ', rfl, hfr, hlt, d1, d2, ey, hres, hout⟩
  rw [ey] at hcr
  have hstep := fun (L : Loc → Prop) hL => out_step hr1 hx hfr hout hlt (rlOf own dst (singleR sg.res)) rlOf_om (fun m => some (rc, i, kAt own n 0 sg.res m)) (L := L) hL
  have hfo : ∀ b, ¬ Ow ρ' b → ¬ Ow (outρ w.heap.size G1.ρ ρ' xs (rlOf own dst (singleR sg.res)) (fun m => some (rc, i, kAt own n 0 sg.res m))) b := fun b h => outρ_none h
  have hof := outs_facts (VA := ValAt G1 a w) (VA' := ValAt { G1 with ρ := outρ w.heap.size G1.ρ ρ' xs (rlOf own dst (singleR sg.res)) (fun m => some (rc, i, kAt own n 0 sg.res m)) } (a.put dst v) w') (XS := xs)
    (ρf := outρ w.heap.size G1.ρ ρ' xs (rlOf own dst (singleR sg.res)) (fun m => some (rc, i, kAt own n 0 sg.res m))) (fun k l id s v0 hX hv => ?_) hfo
    (fun p l id s b hX hb => by rw [outρ_own hb (by simp)]; simp [bk, hX]) (fun p id ls b hX hb => by rw [outρ_own hb (by simp)]; simp [bk, hX]) (fun p id ls j b hX hb => by rw [outρ_own hb (by simp)]; simp [bk, hX]) hp hx hout (fun k => by rw [Nat.zero_add])
  · obtain ⟨G', hf1, hrep⟩ := call_out (Gρ := { G1 with ρ := outρ w.heap.size G1.ρ ρ' xs (rlOf own dst (singleR sg.res)) (fun m => some (rc, i, kAt own n 0 sg.res m)) }) hr1 hd hstep rfl rfl (OutFacts.ghost (G := G1) (G' := { G1 with ρ := outρ w.heap.size G1.ρ ρ' xs (rlOf own dst (singleR sg.res)) (fun m => some (rc, i, kAt own n 0 sg.res m)) }) rfl hof)
      (hres.out hfo (fun b o hb ho => by
        have e0 := outρ_own (n := w.heap.size) (ρ := G1.ρ) (xs := xs) (rl := rlOf own dst (singleR sg.res)) (rb := fun m => some (rc, i, kAt own n 0 sg.res m)) hb ho
        exact ⟨fun n e => e0.trans (by subst e; rfl), fun n e => e0.trans (by subst e; rfl), fun n j e => e0.trans (by subst e; rfl)⟩)) hcr hn
    exact hK G' _ w' ((hstep (fun _ => True) (fun _ _ => trivial)).fr.trans hf1) (hrep.mono hus)
  · -- a value that stands where it stood
    cases l with
    | tmp t =>
      have hv' : a.tmps.getD t undef = v0 := hv
      show (a.put dst v).tmps.getD t undef = v0
      cases hdst : dst with
      | none => exact hv'
      | some d =>
        rw [getD_put_ne, hv']
        rintro rfl
        exact hdis (.tmp d) (by simp [dstL, hdst]) (mem_plnL (p := 0) hX _ (by simp [pln1]))
    | comp t n => trivial
    | om => exact hv.elim
    | box id' j =>
      obtain ⟨b, n, hb, hcell⟩ := hv
      refine ⟨b, n, hb, ?_⟩
      obtain ⟨hρ, c0, el0, hh0, hs0⟩ := hr1.box id' b n hb
      have hni : id' ∉ plnI xs := by
        intro hi
        obtain ⟨k2, ls, b2, h7, h8⟩ := plnI_box hx id' hi
        rw [hb] at h8
        cases h8
        have hj : j < ls.length := by
          rw [← hs0]
          rcases Nat.lt_or_ge j c0.size with h | h
          · exact h
          · simp [World.cell?, hh0, Array.getElem?_eq_none h] at hcell
        refine two (l := .box id' j) (p := 0) hdl hX h7 ?_ (by simp [pln1]) (mem_boxL.2 ⟨by omega, by omega⟩)
        rintro rfl
        rw [hX] at h7; cases h7
      obtain ⟨h9, _⟩ := hfr.ext b (by show (G1.ρ b).map _ = _; rw [hρ, Option.map_some, trOwn_bx hni])
      simp only [World.cell?, h9] at hcell ⊢
      exact hcell
theorem ok_call {c : Call} {f own : Nat} {fn : Fun} (hs : Sound P f fn) (hc : c.callee = .value (.func f)) (hd : ∀ d, dst = some d → d < N) :
    OpOk P C N rc i ⟨dst, .call c, ty, pos, after, guard⟩ (callP fn own rc i ⟨dst, .call c, ty, pos, after, guard⟩ c.args.toList) := by
  intro G used st a w acc rs ws hr hf h K Q hK
  obtain ⟨xs, ws', ws2, acc', G1, rfl, h1, hm, hr1, hx⟩ := argsP_runs hf fn.sig.pars c.args.toList 0 (hr.mono fun _ h => .inl h) h
  rcases (runs_ite h1).symm with ⟨_, h2⟩ | ⟨hdist, h2⟩
  · exact h2.elim
  obtain ⟨ds, acc2, h3, hp⟩ := readPs_runs (i := i) hr1 fn.sig.pars xs _ 0 hx h2
  obtain ⟨x, hmk, h4⟩ := runs_opt h3
  obtain ⟨y, hy, h5⟩ := h4
  obtain ⟨ws3, hcr, h6⟩ := runs_opt h5
  obtain ⟨rfl, -⟩ := h6
  have hds := mkTup_un hmk
  have hargs : (c.args.map a.eval).toList = c.args.toList.map a.eval := by simp
  have hrun : (execOp a.eval ⟨dst, .call c, ty, pos, after, guard⟩).run P w = .ok (.enter f (c.args.map a.eval)) w := by
    have := hs.enter (c.args.map a.eval) w
    simp [execOp, Go.resolve, hc, Act.eval, Deferred.ofValue, invoke, this]
  have hn : ∀ s, 1 + 2 * fn.sig.pars.length ≤ s → ¬ usedA used rc i (0 + fn.sig.pars.length) (rc, i, s) := fun s hs => by rw [Nat.zero_add]; exact usedA_new hf hs
  have hus : ∀ id, usedF (usedA used rc i (0 + fn.sig.pars.length)) rc i (1 + 2 * fn.sig.pars.length) id → usedAt used rc i id := by
    rintro id ((h | ⟨s, _, _, e⟩) | ⟨s, _, e⟩)
    · exact .inl h
    · exact .inr ⟨s, e⟩
    · exact .inr ⟨s, e⟩
  cases hlk : lookS fn.sig with
  | true =>
    unfold Oper.wp
    rw [hrun, Oper.upon_enter]
    rw [hlk] at hx hp
    have hlk' := hlk
    simp only [lookS, Bool.and_eq_true] at hlk'
    refine (hs.calls (fun _ => none) w (c.args.map a.eval) x y hy (fun b h => absurd rfl h) (by rw [hds, hargs]; exact pars_look hlk'.2 hp)).mono ?_
    rintro e w' ⟨v, ρ', rfl, hfr, hlt, d1, d2, ey, hres, hout⟩
    rw [hargs] at hout
    rw [ey] at hcr
    obtain ⟨G', hf1, hrep⟩ := call_out (Gρ := G1) hr1 hd (fun L _ => look_step hr1 hfr L) rfl rfl (outs_look (VA := ValAt G1 (a.put dst v) w') hlk'.2 hx hout) (hres.look hlk'.1) hcr hn
    exact hK_step hm.fr hK G' _ w' ((look_step hr1 hfr (fun _ => True)).fr.trans hf1) (hrep.mono hus)
  | false =>
    rw [hlk] at hx hp
    exact call_main (o := ⟨dst, .call c, ty, pos, after, guard⟩) hd hr1 hx hp hdist hrun rfl hcr hn hus (fun ρ h1 h2 => hs.calls ρ w (c.args.map a.eval) x y hy h1 (by rw [hds, hargs]; exact h2) |>.mono (by
      rintro e w' ⟨v, ρ', h3, h4, h5, d1, d2, h6, h7, h8⟩
      rw [hargs] at h8
      exact ⟨v, ρ', h3, h4, h5, d1, d2, h6, h7, h8⟩)) (hK_step hm.fr hK)
end
end Go.Proofs.Ytbgefphoochgcaa.FE
/- FE, part 27: functions that take a closure: their contract; what may be called. -/
namespace Go.Proofs.Ytbgefphoochgcaa.FE
open Go
set_option linter.unusedVariables false
set_option linter.unusedSimpArgs false
section
variable {Ω : Type} {P : Program}
/-- Where a closure is handed over, it is the one that came in. -/
def FnAt (C : CloRep Ω) (qs : List PS) (vs : List Value) : Prop := ∀ k : Nat, qs[k]? = some PS.fn → vs[k]? = some C.val
/-- A step in which only the closure's own memory changes. -/
structure FrO (ρ : Nat → Option Own) (w : World) (ρ' : Nat → Option Own) (w' : World) : Prop where
  os : w'.os = w.os
  tape : w'.tape = w.tape
  output : w'.output = w.output
  size : w.heap.size ≤ w'.heap.size
  free : Free w (Ow ρ) w' (Ow ρ')
  keep : ∀ b o, ρ b = some o → o ≠ .om → w'.heap[b]? = w.heap[b]? ∧ ρ' b = some o
/-- A closure does what is told of it, at each state. -/
def CloOk (P : Program) (C : CloRep Ω) (as : List Ty) (b : Ty) (g : Ω → Tup as → Option (El b × Ω)) : Prop :=
  ∀ (ρ : Nat → Option Own) (w : World) (args : Array Value) (s : Ω) (x : Tup as) (y : El b × Ω), g s x = some y → (∀ b, Ow ρ b → b < w.heap.size) → C.K s w (fun b => ρ b = some .om) (Ow ρ) → ParsRep ρ w 0 (as.map fun t => PS.v (.dat t)) (unTup as x) args.toList →
    ∃ f cs, C.val = .func (.func f) #[] cs ∧ (callFunc f (args ++ cs)).run P w = .ok (.enter f (args ++ cs)) w ∧ Calls P f (args ++ cs) w fun e w' => ∃ v ρ', e = .returned v ∧ FrO ρ w ρ' w' ∧ (∀ b, Ow ρ' b → b < w'.heap.size) ∧
      RepV w' (Ow ρ') b y.1 v ∧ C.K y.2 w' (fun b => ρ' b = some .om) (Ow ρ')
/-- A function that takes a closure does what its Lean function says, whatever the closure. -/
structure SoundH (P : Program) (f : Nat) (h : Hof) : Prop where
  enter : ∀ args w, (callFunc f args).run P w = .ok (.enter f args) w
  calls : ∀ (Ω : Type) (C : CloRep Ω) (g : Ω → Tup h.as → Option (El h.b × Ω)), CloOk P C h.as h.b g → ∀ (ρ : Nat → Option Own) w (args : Array Value) s x y, h.f Ω g s x = some y → (∀ b, Ow ρ b → b < w.heap.size) →
    ParsRep ρ w 0 h.sig.pars (unTup _ x) args.toList → FnAt C h.sig.pars args.toList → C.K s w (fun b => ρ b = some .om) (Ow ρ) →
    Calls P f args w fun e w' => ∃ v ρ', e = .returned v ∧ Fr ρ w ρ' w' ∧ (∀ b, Ow ρ' b → b < w'.heap.size) ∧
      (∃ d1 d2, unOut h.sig.outs y.1 = d1 ++ d2 ∧ ResAll ρ' w' h.sig.res d1 v ∧ OutsRep ρ' w' 0 h.sig.pars d2 args.toList) ∧ C.K y.2 w' (fun b => ρ' b = some .om) (Ow ρ')
/-- What may be called does what is told of it. -/
structure EnvOk (P : Program) (C : CloRep Ω) (Φ : Env Ω) : Prop where
  funs : ∀ f fn, funGet Φ.funs f = some fn → Sound P f fn
  hofs : ∀ f h, funGet Φ.hofs f = some h → SoundH P f h
  clo : ∀ cl, Φ.clo = some cl → CloOk P C cl.as cl.b cl.g
end
section
variable {Ω : Type} {C : CloRep Ω} {P : Program} {T : Tab} {N : Nat}
variable {rc i : Nat} {dst : Option Nat} {ty : Nat} {pos : String} {after : Array Edge} {guard : Option (Nat × Bool)}
variable {G G1 : Ghost} {used used2 : Id → Prop} {st ws : S Ω} {a : Act} {w w' : World} {acc rs : List Loc} {K : Act → World → Prop} {Q : Exit → Act → World → Prop} {ρ ρ' : Nat → Option Own}
theorem allB_spec {α : Type} {f : α → Bool} : ∀ {l : List α}, allB f l = true → ∀ x ∈ l, f x = true
  | [], _, x, hx => by cases hx
  | a :: r, h, x, hx => by
    simp only [allB] at h
    split at h
    · rename_i ha
      rcases List.mem_cons.1 hx with rfl | hx
      · exact ha
      · exact allB_spec h x hx
    · cases h
theorem allB_tail {α : Type} {f : α → Bool} {a : α} {r : List α} (h : allB f (a :: r) = true) : f a = true ∧ allB f r = true := by
  simp only [allB] at h
  split at h
  · rename_i e; exact ⟨e, h⟩
  · cases h
theorem plainF_dats : ∀ as : List Ty, allB plainF (as.map fun t => PS.v (.dat t)) = true
  | [] => rfl
  | t :: r => by simp only [List.map_cons, allB, plainF]; exact plainF_dats r
/-- Data alone is handed over: as it is. -/
theorem pars_plain {VA : Loc → Value → Prop} {ρ ρe : Nat → Option Own} (hf : ∀ b, ¬ Ow ρ b → ¬ Ow ρe b) : ∀ {qs : List PS} {xs : List Pln} {ds : List DL} {vs : List Value} {p : Nat}, allB plainF qs = true → PlnsRep VA false ρ w rc i p qs xs ds vs → ParsRep ρe w p qs ds vs
  | [], xs, ds, vs, p, _, h => h.2
  | q :: qs, _, _, _, p, hb, ⟨x, xs, d1, d2, v, vs, rfl, rfl, rfl, hx, hxs⟩ => by
    obtain ⟨hq, hqs⟩ := allB_tail hb
    refine ⟨d1, d2, v, vs, rfl, rfl, ?_, pars_plain hf hqs hxs⟩
    cases q with
    | v s =>
      cases s with
      | dat t =>
        cases x with
        | d d0 => obtain ⟨y, e, hy⟩ := hx; exact ⟨y, e, RepV.mono (fun b _ h => ⟨rfl, hf b h⟩) hy⟩
        | t id s' => obtain ⟨h, _⟩ := hx; cases h
        | _ => exact hx.elim
      | _ => cases hq
    | ep t =>
      cases x with
      | d d0 =>
        obtain ⟨y, b, off, l, e, hv, hb, hr, hat⟩ := hx
        exact ⟨y, b, off, l, e, hv, hf b hb, hr.mono fun b _ h => ⟨rfl, hf b h⟩, hat⟩
      | _ => exact hx.elim
    | fn =>
      cases x with
      | n => exact hx
      | _ => exact hx.elim
    | _ => cases hq
/-- The state behind a step of the closure's. -/
theorem om_rep {d : Nat} (hr : Rep C G1 N used2 st a w) (hd : d < N) (hf : FrO G1.ρ w ρ' w') (hlt : ∀ b, Ow ρ' b → b < w'.heap.size) {t : Ty} {y : El t} {v : Value} (hv : RepV w' (Ow ρ') t y v) {s : Ω} (hs : C.K s w' (fun b => ρ' b = some .om) (Ow ρ')) :
    Fr G1.ρ w ρ' w' ∧ Rep C { G1 with ρ := ρ' } N used2 ([(.tmp d, avOf (rowB t) (unpack t y)), (.om, .one (.opq s))] ++ st) (a.put (some d) v) w' := by
  have hfr : Fr G1.ρ w ρ' w' := ⟨hf.os, hf.tape, hf.output, hf.size, hf.free, fun b hb => hf.keep b _ hb (by simp)⟩
  have hs1 : Step G1 w { G1 with ρ := ρ' } w' (fun l => inL l ([((Loc.tmp d), (avOf (rowB t) (unpack t y) : AV Ω)), (.om, .one (.opq s))].map (·.1)) = true) :=
    ⟨fun _ _ h => h, fun _ _ h => h, hf.os, hf.tape, hf.output, hf.size, hf.free, fun b l hb _ => hf.keep b _ hb (by simp), fun b hb => hf.keep b _ hb (by simp), fun b _ hn => absurd (by simp [inL, locB]) hn,
      fun b n id hb => by
        obtain ⟨h1, c, el, h2, h3⟩ := hr.box id b n hb
        obtain ⟨e1, e2⟩ := hf.keep b _ h1 (by simp)
        exact ⟨e2, ⟨c, el, e1.trans h2, h3⟩, fun j _ => by simp [World.cell?, e1]⟩, hlt, fun b _ _ hn => absurd (by simp [inL, locB]) hn⟩
  refine ⟨hfr, Rep.step hr hs1 (fun l hl => ?_) (fun t' ht => ?_) (put_size.trans hr.size) (put_defers.trans hr.defers) (fun id b n h => .inl h) hr.usedΓ hr.usedβ⟩
  · have hl' : l = .tmp d ∨ l = .om := by simpa [inL_iff] using hl
    rcases hl' with rfl | rfl
    · have hav : RepAV C { G1 with ρ := ρ' } w' none (avOf (rowB t) (unpack t y)) v := by
        unfold RepV Val at hv
        cases hb : rowB t with
        | true =>
          rw [hb] at hv
          obtain ⟨cs, rfl, hx⟩ := hv
          exact avOf_rep (unpack_rep hx) rfl
        | false =>
          rw [hb] at hv
          exact avOf_rep (unpack_rep hv) rfl
      have e1 : (a.put (some d) v).tmps.getD d undef = v := getD_put (by rw [hr.size]; exact hd)
      have e2 : S.get [((Loc.tmp d), (avOf (rowB t) (unpack t y) : AV Ω)), (.om, .one (.opq s))] (.tmp d) = avOf (rowB t) (unpack t y) := by simp [S.get, locB_self]
      show RepAt C _ _ w' (.tmp d) _
      rw [e2]
      exact RepAt.of (l := .tmp d) (RepAV1.of avOf_ne hav) e1
    · have e2 : S.get [((Loc.tmp d), (avOf (rowB t) (unpack t y) : AV Ω)), (.om, .one (.opq s))] .om = .one (.opq s) := by simp [S.get, locB]
      rw [e2]
      exact .inr ⟨s, rfl, hs⟩
  · refine getD_put_ne fun e => ?_
    subst e
    simp [inL, locB_self] at ht
theorem runs_get {l : Loc} {f : AV Ω → Prg Ω} (h : (Prg.get l f).Runs st acc rs ws) : (f (st.get l)).Runs st (l :: acc) rs ws := h
theorem om_get {s : Ω} (hr : Rep C G N used st a w) (h : st.get .om = .one (.opq s)) : C.K s w (fun b => G.ρ b = some .om) G.O := by
  have h1 := hr.at_ .om
  rw [h] at h1
  rcases h1 with h1 | ⟨s', e, h1⟩
  · cases h1
  · cases e; exact h1
theorem ok_callV {c : Call} {x : Operand} {cl : CloG Ω} (hcl : CloOk P C cl.as cl.b cl.g) (hc : c.callee = .value x) (hd : ∀ d, dst = some d → d < N)
    (hr : Rep C G N used st a w) (hf : FreshAt used rc i) (hval : a.eval x = C.val) (h : (callV cl rc i ⟨dst, .call c, ty, pos, after, guard⟩ c.args.toList).Runs st acc rs ws)
    (hK : ∀ G' a' w', Fr G.ρ w G'.ρ w' → Rep C G' N (usedAt used rc i) (ws ++ st) a' w' → K a' w') : (⟨dst, .call c, ty, pos, after, guard⟩ : Oper).wp P a w K Q := by
  obtain ⟨xs, ws', ws2, acc', G1, rfl, h1, hm, hr1, hx⟩ := argsP_runs hf _ _ 0 (hr.mono fun _ h => .inl h) h
  obtain ⟨ds, acc2, h2, hp⟩ := readPs_runs (i := i) hr1 _ xs _ 0 hx h1
  obtain ⟨z, hz, h3⟩ := runs_opt h2
  have hds := mkTup_un hz
  have h3 := runs_get h3
  cases hom : S.get (ws' ++ st) .om with
  | agg ls => simp only [hom] at h3; exact h3.elim
  | tup ls => simp only [hom] at h3; exact h3.elim
  | one lf =>
    simp only [hom] at h3
    cases lf with
    | opq s =>
      cases dst with
      | none => exact h3.elim
      | some d =>
        obtain ⟨y, hy, h4⟩ := h3
        obtain ⟨rfl, -⟩ := h4
        have hargs : (c.args.map a.eval).toList = c.args.toList.map a.eval := by simp
        obtain ⟨f, cs, e1, e2, e3⟩ := hcl G1.ρ w (c.args.map a.eval) s z y hy hr1.lt (om_get hr1 hom) (by rw [hds, hargs]; exact pars_plain (fun _ h => h) (plainF_dats _) hp)
        have hrun : (execOp a.eval ⟨some d, .call c, ty, pos, after, guard⟩).run P w = .ok (.enter f (c.args.map a.eval ++ cs)) w := by
          simp [execOp, Go.resolve, hc, hval, e1, Deferred.ofValue, invoke, e2]
        unfold Oper.wp
        rw [hrun, Oper.upon_enter]
        refine e3.mono ?_
        rintro e w' ⟨v, ρ', rfl, hfo, hlt, hv, hs⟩
        obtain ⟨k1, k2⟩ := om_rep hr1 (hd d rfl) hfo hlt hv hs
        refine hK_step hm.fr hK _ _ w' k1 (k2.mono ?_)
        rintro id (h | ⟨s, _, _, e⟩)
        · exact .inl h
        · exact .inr ⟨s, e⟩
    | _ => exact h3.elim
theorem unTup_t : ∀ {as : List Ty} {x : Tup as}, (unTup as x).map (·.t) = as
  | [], x => rfl
  | t :: ts, x => by simp only [unTup, List.map_cons]; rw [unTup_t]
/-- A closure that is called by other words does what is told of it. -/
theorem cloW_ok {cl : CloG Ω} (hcl : CloOk P C cl.as cl.b cl.g) (as : List Ty) (b : Ty) : CloOk P C as b (cloW cl as b) := by
  intro ρ w args s x y hy hlt hs hp
  simp only [cloW, Option.bind_eq_some_iff] at hy
  obtain ⟨x', hx', y', hy', r, hr, hy⟩ := hy
  cases hy
  have e := mkTup_un hx'
  have : cl.as = as := by rw [← unTup_t (x := x'), e, unTup_t]
  subst this
  obtain ⟨e', hr'⟩ := cast_eq hr
  obtain ⟨f, cs, h1, h2, h3⟩ := hcl ρ w args s x' y' hy' hlt hs (by rw [e]; exact hp)
  refine ⟨f, cs, h1, h2, h3.mono ?_⟩
  rintro e w' ⟨v, ρ', h4, h5, h6, h7, h8⟩
  subst e'
  cases hr'
  exact ⟨v, ρ', h4, h5, h6, h7, h8⟩
/-- Within a function that gets the closure on. -/
def ρon (ρ : Nat → Option Own) : Nat → Option Own := fun b => match ρ b with | none => none | some .om => some .om | some _ => some .ext
def isOm : Option Own → Bool | some .om => true | _ => false
theorem isOm_iff {x : Option Own} : isOm x = true ↔ x = some .om := by
  cases x with
  | none => simp [isOm]
  | some o => cases o <;> simp [isOm]
/-- Behind it. -/
def ρbk (ρ ρ' : Nat → Option Own) : Nat → Option Own := fun b => match ρ b with
  | some .om => if isOm (ρ' b) then some .om else none
  | none => if isOm (ρ' b) then some .om else none
  | some o => some o
theorem ρon_ow {b : Nat} : Ow (ρon ρ) b ↔ Ow ρ b := by
  unfold Ow ρon
  cases h : ρ b with
  | none => simp
  | some o => cases o <;> simp
theorem ρon_om {b : Nat} : ρon ρ b = some .om ↔ ρ b = some .om := by
  unfold ρon
  cases h : ρ b with
  | none => simp
  | some o => cases o <;> simp
theorem ρon_ext {b : Nat} {o : Own} (h : ρ b = some o) (ho : o ≠ .om) : ρon ρ b = some .ext := by
  unfold ρon
  rw [h]
  cases o <;> first | rfl | exact absurd rfl ho
theorem ρbk_keep {b : Nat} {o : Own} (h : ρ b = some o) (ho : o ≠ .om) : ρbk ρ ρ' b = some o := by
  unfold ρbk
  rw [h]
  cases o <;> first | rfl | exact absurd rfl ho
theorem ρbk_else {b : Nat} (h : ρ b = none ∨ ρ b = some .om) : ρbk ρ ρ' b = if isOm (ρ' b) then some .om else none := by
  unfold ρbk
  rcases h with h | h <;> rw [h]
theorem onOff (ρ : Nat → Option Own) (b : Nat) : (ρ b = none ∨ ρ b = some .om) ∨ ∃ o, ρ b = some o ∧ o ≠ .om := by
  cases h : ρ b with
  | none => exact .inl (.inl rfl)
  | some o => cases o <;> first | exact .inl (.inr rfl) | exact .inr ⟨_, rfl, by simp⟩
theorem bk_step (hf : Fr (ρon ρ) w ρ' w') : FrO ρ w (ρbk ρ ρ') w' ∧ (∀ b, ¬ Ow ρ' b → ¬ Ow (ρbk ρ ρ') b) ∧ ∀ b, ρ' b = some .om → ρbk ρ ρ' b = some .om := by
  have k1 : ∀ b, ¬ Ow ρ' b → ¬ Ow (ρbk ρ ρ') b := by
    intro b h h'
    rcases onOff ρ b with h1 | ⟨o, h1, h2⟩
    · refine h' ?_
      rw [ρbk_else h1, if_neg]
      intro e
      exact h (by unfold Ow; rw [isOm_iff.1 e]; simp)
    · exact h (by unfold Ow; rw [(hf.ext b (ρon_ext h1 h2)).2]; simp)
  refine ⟨⟨hf.os, hf.tape, hf.output, hf.size, fun b hb hn => ?_, fun b o h ho => ?_⟩, k1, fun b hb => ?_⟩
  · obtain ⟨e1, e2⟩ := hf.free b hb (fun h => hn (ρon_ow.1 h))
    exact ⟨e1, k1 b e2⟩
  · exact ⟨(hf.ext b (ρon_ext h ho)).1, ρbk_keep h ho⟩
  · rcases onOff ρ b with h1 | ⟨o, h1, h2⟩
    · rw [ρbk_else h1, if_pos (isOm_iff.2 hb)]
    · rw [(hf.ext b (ρon_ext h1 h2)).2] at hb; cases hb
theorem fnAt_of : ∀ {qs : List PS} {os : List Operand} {x : Operand}, fnOp qs os = some x → (allB (fun q => match q with | .fn => true | _ => false) qs = true → True) → ∃ k : Nat, qs[k]? = some PS.fn ∧ os[k]? = some x
  | [], _, x, h, _ => by cases h
  | q :: qs, [], x, h, _ => by cases q <;> cases h
  | q :: qs, o :: os, x, h, _ => by
    cases q with
    | fn => cases h; exact ⟨0, rfl, rfl⟩
    | _ =>
      obtain ⟨k, h1, h2⟩ := fnAt_of (qs := qs) (os := os) h (fun _ => trivial)
      exact ⟨k + 1, by simpa using h1, by simpa using h2⟩
theorem oneFn_at : ∀ {qs : List PS} {k l : Nat}, oneFn qs = true → qs[k]? = some PS.fn → qs[l]? = some PS.fn → k = l
  | [], k, l, h, _, _ => by cases h
  | q :: qs, k, l, h, h1, h2 => by
    have no : q = .fn → ∀ m : Nat, qs[m]? = some PS.fn → False := by
      rintro rfl m hm
      have := allB_spec (show allB (fun q => match q with | PS.fn => false | _ => true) qs = true from h) _ (List.mem_of_getElem? hm)
      cases this
    cases k with
    | zero =>
      have hq : q = .fn := by simpa using h1
      cases l with
      | zero => rfl
      | succ l => exact (no hq l (by simpa using h2)).elim
    | succ k =>
      cases l with
      | zero =>
        have hq : q = .fn := by simpa using h2
        exact (no hq k (by simpa using h1)).elim
      | succ l =>
        have h1' : qs[k]? = some PS.fn := by simpa using h1
        have h2' : qs[l]? = some PS.fn := by simpa using h2
        cases q with
        | fn => exact (no rfl k h1').elim
        | _ => exact congrArg (· + 1) (oneFn_at (qs := qs) h h1' h2')
theorem fnAt_one {C' : CloRep Ω} {qs : List PS} {os : List Operand} {x : Operand} (ho : oneFn qs = true) (hx : fnOp qs os = some x) (hv : a.eval x = C'.val) : FnAt C' qs (os.map a.eval) := by
  obtain ⟨k, h1, h2⟩ := fnAt_of hx (fun _ => trivial)
  intro l hl
  obtain rfl := oneFn_at ho hl h1
  rw [List.getElem?_map, h2, Option.map_some, hv]
theorem ok_callHV {c : Call} {f : Nat} {x : Operand} {cl : CloG Ω} {h : Hof} (hcl : CloOk P C cl.as cl.b cl.g) (hs : SoundH P f h) (hc : c.callee = .value (.func f)) (hd : ∀ d, dst = some d → d < N)
    (hr : Rep C G N used st a w) (hf : FreshAt used rc i) (hx0 : fnOp h.sig.pars c.args.toList = some x) (ho : oneFn h.sig.pars = true) (hval : a.eval x = C.val) (hh : (callHV false cl h rc i ⟨dst, .call c, ty, pos, after, guard⟩ c.args.toList).Runs st acc rs ws)
    (hK : ∀ G' a' w', Fr G.ρ w G'.ρ w' → Rep C G' N (usedAt used rc i) (ws ++ st) a' w' → K a' w') : (⟨dst, .call c, ty, pos, after, guard⟩ : Oper).wp P a w K Q := by
  rcases (runs_ite hh).symm with ⟨_, hh⟩ | ⟨hpl, hh⟩
  · exact hh.elim
  obtain ⟨xs, ws', ws2, acc', G1, rfl, h1, hm, hr1, hx⟩ := argsP_runs hf _ _ 0 (hr.mono fun _ h => .inl h) hh
  obtain ⟨ds, acc2, h2, hp⟩ := readPs_runs (i := i) hr1 _ xs _ 0 hx h1
  obtain ⟨z, hz, h3⟩ := runs_opt h2
  have hds := mkTup_un hz
  have h3 := runs_get h3
  cases hom : S.get (ws' ++ st) .om with
  | agg ls => simp only [hom] at h3; exact h3.elim
  | tup ls => simp only [hom] at h3; exact h3.elim
  | one lf =>
    simp only [hom] at h3
    cases lf with
    | opq s =>
      cases dst with
      | none => exact h3.elim
      | some d =>
        split at h3
        · rename_i s' d' t hs' hd' hres
          cases hs'
          cases hd'
          obtain ⟨y, hy, h4⟩ := h3
          simp only at h4
          split at h4
          · rename_i e he
            obtain ⟨r, hr', h5⟩ := runs_opt h4
            obtain ⟨rfl, -⟩ := h5
            have hargs : (c.args.map a.eval).toList = c.args.toList.map a.eval := by simp
            have hrun : (execOp a.eval ⟨some d, .call c, ty, pos, after, guard⟩).run P w = .ok (.enter f (c.args.map a.eval)) w := by
              have := hs.enter (c.args.map a.eval) w
              simp [execOp, Go.resolve, hc, Act.eval, Deferred.ofValue, invoke, this]
            have hKs := om_get hr1 hom
            have hcalls := hs.calls Ω C _ (cloW_ok hcl h.as h.b) (ρon G1.ρ) w (c.args.map a.eval) s z y hy (fun b h => hr1.lt b (ρon_ow.1 h))
              (by rw [hds, hargs]; exact pars_plain (fun b h h' => h (ρon_ow.1 h')) hpl hp) (by rw [hargs]; exact fnAt_one ho hx0 hval)
              (C.stable hKs (Nat.le_refl _) (fun _ _ => rfl) (fun b _ hn => ⟨rfl, fun h => hn (ρon_ow.1 h)⟩) (fun b hb => ρon_om.2 hb))
            unfold Oper.wp
            rw [hrun, Oper.upon_enter]
            refine hcalls.mono ?_
            rintro e' w' ⟨v, ρ', rfl, hfr, hlt, ⟨d1, d2, ey, hra, hou⟩, hs2⟩
            obtain ⟨k1, k2, k3⟩ := bk_step hfr
            have hv : RepV w' (Ow (ρbk G1.ρ ρ')) t r v := by
              rw [hres] at hra
              obtain ⟨x1, e1, hx1⟩ : ∃ x, d1 = [⟨t, x⟩] ∧ RepV w' (Ow ρ') t x v := hra
              rw [e1] at ey
              rw [he] at ey
              have : e = ⟨t, x1⟩ := (List.cons.inj ey).1
              subst this
              have h6 : cast? t t x1 = some r := hr'
              rw [cast_self] at h6
              cases h6
              exact hx1.mono fun b _ h => ⟨rfl, k2 b h⟩
            obtain ⟨k4, k5⟩ := om_rep hr1 (hd d rfl) k1 (fun b hb => hlt b (Classical.byContradiction fun h => k2 b h hb)) hv (C.stable hs2 (Nat.le_refl _) (fun _ _ => rfl) (fun b _ hn => ⟨rfl, k2 b hn⟩) k3)
            refine hK_step hm.fr hK _ _ w' k4 (k5.mono ?_)
            rintro id (h | ⟨s, _, _, e⟩)
            · exact .inl h
            · exact .inr ⟨s, e⟩
          · exact h4.elim
        · exact h3.elim
    | _ => exact h3.elim
/-! ### what is lent -/
/-- A closure, while some blocks are lent: it never gets them. -/
def lentC (C : CloRep Ω) (Lt : Nat → Prop) : CloRep Ω :=
  ⟨C.val, C.fn, fun s w M O => (∃ n, (∀ b, Lt b → b < n) ∧ n ≤ w.heap.size) ∧ C.K s w (fun b => M b ∧ ¬ Lt b) (fun b => O b ∨ Lt b), fun h hs h1 h2 h3 => by
    obtain ⟨⟨n, hn, hle⟩, hk⟩ := h
    exact ⟨⟨n, hn, Nat.le_trans hle hs⟩, C.stable hk hs (fun b hb => h1 b hb.1) (fun b hb hno => by
      obtain ⟨e1, e2⟩ := h2 b hb (fun h => hno (.inl h))
      exact ⟨e1, fun h => h.elim e2 fun h => hno (.inr h)⟩) (fun b hb => ⟨h3 b hb.1, hb.2⟩)⟩⟩
theorem scal_pars : ∀ {as : List Ty} {p : Nat} {ds : List DL} {vs : List Value}, allB scalar as = true → ParsRep ρ w p (as.map fun t => PS.v (.dat t)) ds vs → ParsRep ρ' w p (as.map fun t => PS.v (.dat t)) ds vs
  | [], p, ds, vs, _, h => h
  | t :: as, p, ds, vs, hs, ⟨d1, d2, v, vs', e1, e2, ⟨x, e3, h1⟩, h2⟩ => by
    obtain ⟨hs1, hs2⟩ := allB_tail hs
    refine ⟨d1, d2, v, vs', e1, e2, ⟨x, e3, ?_⟩, scal_pars hs2 h2⟩
    exact Val.mono h1 fun l h => RepC_scalar hs1 h
open Classical in
theorem lent_ok {Lt : Nat → Prop} {as : List Ty} {b : Ty} {g : Ω → Tup as → Option (El b × Ω)} (hsc : allB scalar as = true) (hg : CloOk P C as b g) : CloOk P (lentC C Lt) as b g := by
  intro ρ w args s x y hy hlt hK hp
  obtain ⟨⟨n, hn, hle⟩, hK⟩ := hK
  have e1 : ∀ b, Lt b → (fun b => if Lt b then some Own.ext else ρ b) b = some .ext := fun b h => by simp [h]
  have e2 : ∀ b, ¬ Lt b → (fun b => if Lt b then some Own.ext else ρ b) b = ρ b := fun b h => by simp [h]
  have ow : ∀ b, Ow (fun b => if Lt b then some Own.ext else ρ b) b ↔ (Ow ρ b ∨ Lt b) := by
    intro b
    unfold Ow
    by_cases h : Lt b
    · rw [e1 b h]; simp [h]
    · rw [e2 b h]; simp [h]
  obtain ⟨f, cs, h1, h2, h3⟩ := hg (fun b => if Lt b then some Own.ext else ρ b) w args s x y hy
    (fun b h => ((ow b).1 h).elim (hlt b) fun h => Nat.lt_of_lt_of_le (hn b h) hle)
    (C.stable hK (Nat.le_refl _) (fun _ _ => rfl) (fun b _ hno => ⟨rfl, fun h => hno ((ow b).1 h)⟩) (fun b hb => (e2 b hb.2).trans hb.1)) (scal_pars hsc hp)
  refine ⟨f, cs, h1, h2, h3.mono ?_⟩
  rintro e w' ⟨v, ρ2, rfl, hf, hlt2, hv, hK2⟩
  have l2 : ∀ b, Lt b → w'.heap[b]? = w.heap[b]? ∧ ρ2 b = some .ext := fun b h => hf.keep b _ (e1 b h) (by simp)
  have r1 : ∀ b, Lt b → (fun b => if Lt b then ρ b else ρ2 b) b = ρ b := fun b h => by simp [h]
  have r2 : ∀ b, ¬ Lt b → (fun b => if Lt b then ρ b else ρ2 b) b = ρ2 b := fun b h => by simp [h]
  have sub : ∀ b, ¬ Ow ρ2 b → ¬ Lt b ∧ ¬ Ow (fun b => if Lt b then ρ b else ρ2 b) b := by
    intro b h
    have hl : ¬ Lt b := fun hl => h (by unfold Ow; rw [(l2 b hl).2]; simp)
    exact ⟨hl, by unfold Ow; rw [r2 b hl]; exact h⟩
  refine ⟨v, fun b => if Lt b then ρ b else ρ2 b, rfl, ⟨hf.os, hf.tape, hf.output, hf.size, fun b hb hno => ?_, fun b o h ho => ?_⟩, fun b hb => ?_, hv.mono fun b _ h => ⟨rfl, (sub b h).2⟩, ⟨n, hn, Nat.le_trans hle hf.size⟩, C.stable hK2 (Nat.le_refl _) (fun _ _ => rfl) (fun b _ hno => ⟨rfl, fun h => h.elim (sub b hno).2 (sub b hno).1⟩) (fun b hb => ?_)⟩
  · by_cases hl : Lt b
    · exact ⟨(l2 b hl).1, by unfold Ow; rw [r1 b hl]; exact hno⟩
    · obtain ⟨k1, k2⟩ := hf.free b hb (by unfold Ow; rw [e2 b hl]; exact hno)
      exact ⟨k1, by unfold Ow; rw [r2 b hl]; exact k2⟩
  · by_cases hl : Lt b
    · exact ⟨(l2 b hl).1, (r1 b hl).trans h⟩
    · obtain ⟨k1, k2⟩ := hf.keep b o ((e2 b hl).trans h) ho
      exact ⟨k1, (r2 b hl).trans k2⟩
  · by_cases hl : Lt b
    · exact Nat.lt_of_lt_of_le (hn b hl) (Nat.le_trans hle hf.size)
    · exact hlt2 b (by unfold Ow at hb; rw [r2 b hl] at hb; exact hb)
  · have hl : ¬ Lt b := fun hl => by rw [(l2 b hl).2] at hb; cases hb
    exact ⟨(r2 b hl).trans hb, hl⟩
/-- Within a function that gets the closure on and only looks at all else. -/
def ρlk (ρ : Nat → Option Own) : Nat → Option Own := fun b => match ρ b with | some .om => some .om | _ => none
theorem ρlk_ow {b : Nat} : Ow (ρlk ρ) b ↔ ρ b = some .om := by
  unfold Ow ρlk
  cases h : ρ b with
  | none => simp
  | some o => cases o <;> simp
theorem ρlk_om {b : Nat} : ρlk ρ b = some .om ↔ ρ b = some .om := by
  unfold ρlk
  cases h : ρ b with
  | none => simp
  | some o => cases o <;> simp
theorem pars_lk {VA : Loc → Value → Prop} : ∀ {qs : List PS} {xs : List Pln} {ds : List DL} {vs : List Value} {p : Nat}, allB plainF qs = true → PlnsRep VA true ρ w rc i p qs xs ds vs → ParsRep (ρlk ρ) w p qs ds vs
  | [], xs, ds, vs, p, _, h => h.2
  | q :: qs, _, _, _, p, hb, ⟨x, xs, d1, d2, v, vs, rfl, rfl, rfl, hx, hxs⟩ => by
    obtain ⟨hq, hqs⟩ := allB_tail hb
    refine ⟨d1, d2, v, vs, rfl, rfl, ?_, pars_lk hqs hxs⟩
    cases q with
    | v s =>
      cases s with
      | dat t =>
        cases x with
        | d d0 => obtain ⟨y, e, hy⟩ := hx; exact ⟨y, e, RepV.mono (fun b _ h => ⟨rfl, fun h' => h (ρlk_ow.1 h')⟩) hy⟩
        | t id s' => obtain ⟨h, _⟩ := hx; cases h
        | _ => exact hx.elim
      | _ => cases hq
    | ep t =>
      cases x with
      | d d0 =>
        obtain ⟨y, b, off, l, e, hv, hb, hr, hat⟩ := hx
        have k : ∀ {b}, ¬ Ow ρ b → ¬ Ow (ρlk ρ) b := fun h h' => h (by unfold Ow; rw [ρlk_ow.1 h']; simp)
        exact ⟨y, b, off, l, e, hv, k hb, hr.mono fun b _ h => ⟨rfl, k h⟩, hat⟩
      | _ => exact hx.elim
    | fn =>
      cases x with
      | n => exact hx
      | _ => exact hx.elim
    | _ => cases hq
theorem ok_callHL {c : Call} {f : Nat} {x : Operand} {cl : CloG Ω} {h : Hof} (hcl : CloOk P C cl.as cl.b cl.g) (hs : SoundH P f h) (hc : c.callee = .value (.func f)) (hd : ∀ d, dst = some d → d < N)
    (hsa : allB scalar h.as = true) (hsr : allB lookR h.sig.res = true)
    (hr : Rep C G N used st a w) (hf : FreshAt used rc i) (hx0 : fnOp h.sig.pars c.args.toList = some x) (ho : oneFn h.sig.pars = true) (hval : a.eval x = C.val) (hh : (callHV true cl h rc i ⟨dst, .call c, ty, pos, after, guard⟩ c.args.toList).Runs st acc rs ws)
    (hK : ∀ G' a' w', Fr G.ρ w G'.ρ w' → Rep C G' N (usedAt used rc i) (ws ++ st) a' w' → K a' w') : (⟨dst, .call c, ty, pos, after, guard⟩ : Oper).wp P a w K Q := by
  rcases (runs_ite hh).symm with ⟨_, hh⟩ | ⟨hpl, hh⟩
  · exact hh.elim
  obtain ⟨xs, ws', ws2, acc', G1, rfl, h1, hm, hr1, hx⟩ := argsP_runs hf _ _ 0 (hr.mono fun _ h => .inl h) hh
  obtain ⟨ds, acc2, h2, hp⟩ := readPs_runs (i := i) hr1 _ xs _ 0 hx h1
  obtain ⟨z, hz, h3⟩ := runs_opt h2
  have hds := mkTup_un hz
  have h3 := runs_get h3
  cases hom : S.get (ws' ++ st) .om with
  | agg ls => simp only [hom] at h3; exact h3.elim
  | tup ls => simp only [hom] at h3; exact h3.elim
  | one lf =>
    simp only [hom] at h3
    cases lf with
    | opq s =>
      cases dst with
      | none => exact h3.elim
      | some d =>
        split at h3
        · rename_i s' d' t hs' hd' hres
          cases hs'
          cases hd'
          obtain ⟨y, hy, h4⟩ := h3
          simp only at h4
          split at h4
          · rename_i e he
            obtain ⟨r, hr', h5⟩ := runs_opt h4
            obtain ⟨rfl, -⟩ := h5
            have hst : scalar t = true := by
              rw [hres] at hsr
              exact (allB_tail hsr).1
            have hargs : (c.args.map a.eval).toList = c.args.toList.map a.eval := by simp
            have hrun : (execOp a.eval ⟨some d, .call c, ty, pos, after, guard⟩).run P w = .ok (.enter f (c.args.map a.eval)) w := by
              have := hs.enter (c.args.map a.eval) w
              simp [execOp, Go.resolve, hc, Act.eval, Deferred.ofValue, invoke, this]
            have hKs := om_get hr1 hom
            -- all that is owned and isn't the closure's is lent
            have lt_iff : ∀ b, (Ow G1.ρ b ∧ G1.ρ b ≠ some .om) ∨ G1.ρ b = some .om ↔ Ow G1.ρ b := fun b => ⟨fun h => h.elim (·.1) fun h => (by unfold Ow; rw [h]; simp), fun h => (Classical.em (G1.ρ b = some .om)).elim .inr fun h2 => .inl ⟨h, h2⟩⟩
            have hcalls := hs.calls Ω (lentC C fun b => Ow G1.ρ b ∧ G1.ρ b ≠ some .om) _ (lent_ok hsa (cloW_ok hcl h.as h.b)) (ρlk G1.ρ) w (c.args.map a.eval) s z y hy (fun b h => hr1.lt b (by show G1.ρ b ≠ none; rw [ρlk_ow.1 h]; simp))
              (by rw [hds, hargs]; exact pars_lk hpl hp) (by rw [hargs]; exact fnAt_one (C' := lentC C _) ho hx0 hval)
              ⟨⟨w.heap.size, fun b h => hr1.lt b h.1, Nat.le_refl _⟩, C.stable hKs (Nat.le_refl _) (fun _ _ => rfl) (fun b _ hn => ⟨rfl, fun h => hn ((lt_iff b).1 (h.elim (fun h => .inr (ρlk_ow.1 h)) .inl))⟩) (fun b hb => ⟨ρlk_om.2 hb, fun h => h.2 hb⟩)⟩
            unfold Oper.wp
            rw [hrun, Oper.upon_enter]
            refine hcalls.mono ?_
            rintro e' w' ⟨v, ρ', rfl, hfr, hlt, ⟨d1, d2, ey, hra, hou⟩, -, hs2⟩
            have kfr : FrO G1.ρ w (ρbk G1.ρ ρ') w' := by
              refine ⟨hfr.os, hfr.tape, hfr.output, hfr.size, fun b hb hn => ?_, fun b o h ho => ?_⟩
              · have hn' : G1.ρ b = none := Classical.byContradiction fun h => hn h
                obtain ⟨e1, e2⟩ := hfr.free b hb (fun h => by rw [ρlk_ow.1 h] at hn'; cases hn')
                refine ⟨e1, ?_⟩
                unfold Ow
                rw [ρbk_else (.inl hn'), if_neg]
                · simp
                · intro e; exact e2 (by unfold Ow; rw [isOm_iff.1 e]; simp)
              · have hb : b < w.heap.size := hr1.lt b (by show G1.ρ b ≠ none; rw [h]; simp)
                exact ⟨(hfr.free b hb (fun h' => by rw [ρlk_ow.1 h'] at h; exact ho (Option.some.inj h).symm)).1, ρbk_keep h ho⟩
            have hv : RepV w' (Ow (ρbk G1.ρ ρ')) t r v := by
              rw [hres] at hra
              obtain ⟨x1, e1, hx1⟩ : ∃ x, d1 = [⟨t, x⟩] ∧ RepV w' (Ow ρ') t x v := hra
              rw [e1] at ey
              rw [he] at ey
              have : e = ⟨t, x1⟩ := (List.cons.inj ey).1
              subst this
              have h6 : cast? t t x1 = some r := hr'
              rw [cast_self] at h6
              cases h6
              exact Val.mono hx1 fun l h => RepC_scalar hst h
            have hK3 : C.K y.2 w' (fun b => ρbk G1.ρ ρ' b = some .om) (Ow (ρbk G1.ρ ρ')) := by
              refine C.stable hs2 (Nat.le_refl _) (fun _ _ => rfl) (fun b _ hn => ⟨rfl, fun h => ?_⟩) (fun b hb => ?_)
              · rcases onOff G1.ρ b with h1 | ⟨o, h1, h2⟩
                · unfold Ow at h
                  rw [ρbk_else h1] at h
                  by_cases ho : isOm (ρ' b) = true
                  · exact hn (.inl (by unfold Ow; rw [isOm_iff.1 ho]; simp))
                  · rw [if_neg ho] at h; exact h rfl
                · exact hn (.inr ⟨by unfold Ow; rw [h1]; simp, by rw [h1]; intro e; exact h2 (Option.some.inj e)⟩)
              · obtain ⟨hb1, hb2⟩ := hb
                rcases onOff G1.ρ b with h1 | ⟨o, h1, h2⟩
                · rw [ρbk_else h1, if_pos (isOm_iff.2 hb1)]
                · exact absurd ⟨by unfold Ow; rw [h1]; simp, by rw [h1]; intro e; exact h2 (Option.some.inj e)⟩ hb2
            have hlt' : ∀ b, Ow (ρbk G1.ρ ρ') b → b < w'.heap.size := by
              intro b hb
              rcases onOff G1.ρ b with h1 | ⟨o, h1, h2⟩
              · unfold Ow at hb
                rw [ρbk_else h1] at hb
                by_cases ho : isOm (ρ' b) = true
                · exact hlt b (by unfold Ow; rw [isOm_iff.1 ho]; simp)
                · rw [if_neg ho] at hb; exact absurd rfl hb
              · exact Nat.lt_of_lt_of_le (hr1.lt b (by show G1.ρ b ≠ none; rw [h1]; simp)) hfr.size
            obtain ⟨k4, k5⟩ := om_rep hr1 (hd d rfl) kfr hlt' hv hK3
            refine hK_step hm.fr hK _ _ w' k4 (k5.mono ?_)
            rintro id (h | ⟨s, _, _, e⟩)
            · exact .inl h
            · exact .inr ⟨s, e⟩
          · exact h4.elim
        · exact h3.elim
    | _ => exact h3.elim
end
end Go.Proofs.Ytbgefphoochgcaa.FE
/- FE, part 28: a function that takes a closure, with one of the function's own. -/
namespace Go.Proofs.Ytbgefphoochgcaa.FE
open Go
set_option linter.unusedVariables false
set_option linter.unusedSimpArgs false
section
variable {Ω : Type} {C : CloRep Ω} {P : Program} {T : Tab} {N : Nat}
variable {rc i : Nat} {dst : Option Nat} {ty : Nat} {pos : String} {after : Array Edge} {guard : Option (Nat × Bool)}
variable {G G1 : Ghost} {used used2 : Id → Prop} {st ws : S Ω} {a : Act} {w w' : World} {acc rs : List Loc} {K : Act → World → Prop} {Q : Exit → Act → World → Prop} {ρ ρ' : Nat → Option Own}
theorem mkOut_un : ∀ {ts : List Ty} {ds : List DL} {y : El (outTy ts)}, mkOut ts ds = some y → unOut ts y = ds
  | [], [], y, h => rfl
  | [], _ :: _, y, h => by cases h
  | [t], [], y, h => by cases h
  | [t], [d], y, h => by
    obtain ⟨t', x⟩ := d
    have h' : cast? t' t x = some y := h
    obtain ⟨e, rfl⟩ := cast_eq h'
    cases e
    rfl
  | [t], _ :: _ :: _, y, h => by cases h
  | t :: s :: ts, [], y, h => by cases h
  | t :: s :: ts, d :: ds, y, h => by
    have h' : (cast? d.t t d.x).bind (fun x => (mkOut (s :: ts) ds).bind fun r => some (x, r)) = some y := h
    simp only [Option.bind_eq_some_iff] at h'
    obtain ⟨x, hx, r, hr, h'⟩ := h'
    cases h'
    obtain ⟨t', x'⟩ := d
    obtain ⟨e, rfl⟩ := cast_eq hx
    cases e
    have ih := mkOut_un hr
    simp only [unOut, ih]
theorem pars_split : ∀ {A B : List PS} {p : Nat} {ds : List DL} {vs : List Value}, ParsRep ρ w p (A ++ B) ds vs → ∃ d1 d2 v1 v2, ds = d1 ++ d2 ∧ vs = v1 ++ v2 ∧ ParsRep ρ w p A d1 v1 ∧ ParsRep ρ w (p + A.length) B d2 v2
  | [], B, p, ds, vs, h => ⟨[], ds, [], vs, rfl, rfl, ⟨rfl, rfl⟩, h⟩
  | q :: A, B, p, ds, vs, ⟨d1, d2, v, vs', e1, e2, h1, h2⟩ => by
    obtain ⟨c1, c2, u1, u2, rfl, rfl, k1, k2⟩ := pars_split h2
    refine ⟨d1 ++ c1, c2, v :: u1, u2, by rw [e1, List.append_assoc], by rw [e2]; rfl, ⟨d1, c1, v, u1, rfl, rfl, h1, k1⟩, ?_⟩
    rw [List.length_cons, show p + (A.length + 1) = p + 1 + A.length by omega]
    exact k2
theorem pars_len : ∀ {A : List PS} {p : Nat} {ds : List DL} {vs : List Value}, ParsRep ρ w p A ds vs → vs.length = A.length
  | [], p, ds, vs, h => by rw [h.2]; rfl
  | q :: A, p, ds, vs, ⟨d1, d2, v, vs', e1, e2, h1, h2⟩ => by rw [e2, List.length_cons, List.length_cons, pars_len h2]
theorem pars_app : ∀ {A B : List PS} {p : Nat} {d1 d2 : List DL} {v1 v2 : List Value}, ParsRep ρ w p A d1 v1 → ParsRep ρ w (p + A.length) B d2 v2 → ParsRep ρ w p (A ++ B) (d1 ++ d2) (v1 ++ v2)
  | [], B, p, d1, d2, v1, v2, h, k => by obtain ⟨rfl, rfl⟩ := h; exact k
  | q :: A, B, p, d1, d2, v1, v2, ⟨e1, e2, v, vs, h1, h2, h3, h4⟩, k => by
    refine ⟨e1, e2 ++ d2, v, vs ++ v2, by rw [h1, List.append_assoc], by rw [h2]; rfl, h3, pars_app h4 ?_⟩
    rw [List.length_cons, show p + (A.length + 1) = p + 1 + A.length by omega] at k
    exact k
theorem outs_app : ∀ {A B : List PS} {p : Nat} {d1 d2 : List DL} {v1 v2 : List Value}, OutsRep ρ w p A d1 v1 → OutsRep ρ w (p + A.length) B d2 v2 → OutsRep ρ w p (A ++ B) (d1 ++ d2) (v1 ++ v2)
  | [], B, p, d1, d2, v1, v2, h, k => by obtain ⟨rfl, rfl⟩ := h; exact k
  | q :: A, B, p, d1, d2, v1, v2, ⟨e1, e2, v, vs, h1, h2, h3, h4⟩, k => by
    refine ⟨e1, e2 ++ d2, v, vs ++ v2, by rw [h1, List.append_assoc], by rw [h2]; rfl, h3, outs_app h4 ?_⟩
    rw [List.length_cons, show p + (A.length + 1) = p + 1 + A.length by omega] at k
    exact k
theorem outs_split : ∀ {A B : List PS} {p : Nat} {ds : List DL} {vs : List Value}, OutsRep ρ w p (A ++ B) ds vs → ∃ d1 d2 v1 v2, ds = d1 ++ d2 ∧ vs = v1 ++ v2 ∧ OutsRep ρ w p A d1 v1 ∧ OutsRep ρ w (p + A.length) B d2 v2
  | [], B, p, ds, vs, h => ⟨[], ds, [], vs, rfl, rfl, ⟨rfl, rfl⟩, h⟩
  | q :: A, B, p, ds, vs, ⟨d1, d2, v, vs', e1, e2, h1, h2⟩ => by
    obtain ⟨c1, c2, u1, u2, rfl, rfl, k1, k2⟩ := outs_split h2
    refine ⟨d1 ++ c1, c2, v :: u1, u2, by rw [e1, List.append_assoc], by rw [e2]; rfl, ⟨d1, c1, v, u1, rfl, rfl, h1, k1⟩, ?_⟩
    rw [List.length_cons, show p + (A.length + 1) = p + 1 + A.length by omega]
    exact k2
theorem outs_len : ∀ {A : List PS} {p : Nat} {ds : List DL} {vs : List Value}, OutsRep ρ w p A ds vs → vs.length = A.length
  | [], p, ds, vs, h => by rw [h.2]; rfl
  | q :: A, p, ds, vs, ⟨d1, d2, v, vs', e1, e2, h1, h2⟩ => by rw [e2, List.length_cons, List.length_cons, outs_len h2]
theorem par_dlen {p : Nat} {q : PS} {ds : List DL} {v : Value} (h : ParRep ρ w p q ds v) : ds.length = q.tys.length := by
  cases q with
  | v s => cases s <;> (obtain ⟨x, e, _⟩ := h; rw [e]; rfl)
  | mu s => obtain ⟨x, e, _⟩ := h; rw [e]; rfl
  | ep t => obtain ⟨x, _, _, _, e, _⟩ := h; rw [e]; rfl
  | bx ls => obtain ⟨b, c, el, _, _, _, _, h, _⟩ := h; rw [h]; simp [PS.tys]
  | fn => have h : ds = [] := h; rw [h]; rfl
theorem pars_dlen : ∀ {A : List PS} {p : Nat} {ds : List DL} {vs : List Value}, ParsRep ρ w p A ds vs → ds.length = (A.flatMap PS.tys).length
  | [], p, ds, vs, h => by rw [h.1]; rfl
  | q :: A, p, ds, vs, ⟨d1, d2, v, vs', e1, e2, h1, h2⟩ => by rw [e1, List.length_append, List.flatMap_cons, List.length_append, par_dlen h1, pars_dlen h2]
theorem unTup_len : ∀ {ts : List Ty} {x : Tup ts}, (unTup ts x).length = ts.length
  | [], x => rfl
  | t :: ts, x => by simp only [unTup, List.length_cons]; rw [unTup_len]

/-! ### from world to world -/
theorem ArrRep.tr2 {o o' : Own} {e : Ty} {xs : List (El e)} {v : Value} (h : ArrRep ρ w o e xs v) (ho : ∀ b, ρ b = some o → w'.heap[b]? = w.heap[b]? ∧ ρ' b = some o') (hf : Free w (Ow ρ) w' (Ow ρ')) : ArrRep ρ' w' o' e xs v := by
  rcases h with h | ⟨b, off, cap, c, el, hv, hc, hb, hh, hsz, hx⟩
  · exact .inl h
  · obtain ⟨e1, e2⟩ := ho b hb
    exact .inr ⟨b, off, cap, c, el, hv, hc, e2, e1.trans hh, hsz, fun j hj => let ⟨vs, hr, hat⟩ := hx j hj; ⟨vs, hr.mono hf, hat⟩⟩
theorem MapRep.tr2 {o o' : Own} {k u : Ty} {m : List (El k × El u)} {v : Value} {bs : List Nat} (h : MapRep ρ w o k u m v bs) (ho : ∀ b, ρ b = some o → w'.heap[b]? = w.heap[b]? ∧ ρ' b = some o') (hf : Free w (Ow ρ) w' (Ow ρ')) : MapRep ρ' w' o' k u m v bs := by
  obtain ⟨b, es, clock, hu, hb, hh, hsz, hbs, hx, hr⟩ := h
  obtain ⟨e1, e2⟩ := ho b hb
  exact ⟨b, es, clock, hu, e2, e1.trans hh, hsz, hbs, fun j hj => let ⟨en, he, h1, h2⟩ := hx j hj; ⟨en, he, h1.mono hf, h2.mono hf⟩, hr⟩
theorem LSRep.tr2 {o o' : Own} {s : LS} {d : DL} {v : Value} (h : LSRep ρ w o s d v) (ho : ∀ b, ρ b = some o → w'.heap[b]? = w.heap[b]? ∧ ρ' b = some o') (hf : Free w (Ow ρ) w' (Ow ρ')) : LSRep ρ' w' o' s d v := by
  cases s with
  | dat t => obtain ⟨x, e, h⟩ := h; exact ⟨x, e, h.mono hf⟩
  | arr e => obtain ⟨x, e, h⟩ := h; exact ⟨x, e, h.tr2 ho hf⟩
  | omp k u => obtain ⟨x, bs, e, h⟩ := h; exact ⟨x, bs, e, h.tr2 ho hf⟩
theorem BoxRep.tr2 {id id' : Id} {ls : List LS} {ds : List DL} {v : Value} (h : BoxRep ρ w id ls ds v) (hb : ∀ b, ρ b = some (.bx id) → w'.heap[b]? = w.heap[b]? ∧ ρ' b = some (.bx id')) (ho : ∀ j b, ρ b = some (.at_ (.box id j)) → w'.heap[b]? = w.heap[b]? ∧ ρ' b = some (.at_ (.box id' j))) (hf : Free w (Ow ρ) w' (Ow ρ')) : BoxRep ρ' w' id' ls ds v := by
  obtain ⟨b, c, el, hv, h1, h2, h3, h4, h5⟩ := h
  obtain ⟨e1, e2⟩ := hb b h1
  exact ⟨b, c, el, hv, e2, e1.trans h2, h3, h4, fun j s d u k1 k2 k3 => (h5 j s d u k1 k2 k3).tr2 (ho j) hf⟩
def bxs : PS → Bool | .bx _ => true | _ => false
theorem boxes_tr {p p' : Nat} (hb : ∀ (k b : Nat), ρ b = some (.bx (0, 0, p + k)) → w'.heap[b]? = w.heap[b]? ∧ ρ' b = some (.bx (0, 0, p' + k)))
    (ho : ∀ (k j b : Nat), ρ b = some (.at_ (.box (0, 0, p + k) j)) → w'.heap[b]? = w.heap[b]? ∧ ρ' b = some (.at_ (.box (0, 0, p' + k) j))) (hf : Free w (Ow ρ) w' (Ow ρ')) : ∀ {qs : List PS} {m : Nat} {ds : List DL} {vs : List Value}, allB bxs qs = true → ParsRep ρ w (p + m) qs ds vs → ParsRep ρ' w' (p' + m) qs ds vs
  | [], m, ds, vs, _, h => h
  | q :: qs, m, ds, vs, hq, ⟨d1, d2, v, vs', e1, e2, h1, h2⟩ => by
    obtain ⟨hq1, hq2⟩ := allB_tail hq
    refine ⟨d1, d2, v, vs', e1, e2, ?_, ?_⟩
    · cases q with
      | bx ls =>
        have h1' : BoxRep ρ w (0, 0, p + m) ls d1 v := h1
        exact BoxRep.tr2 h1' (hb m) (ho m) hf
      | _ => cases hq1
    · have := boxes_tr hb ho hf (m := m + 1) hq2 (by rw [show p + (m + 1) = p + m + 1 by omega]; exact h2)
      rw [show p' + m + 1 = p' + (m + 1) by omega]
      exact this
theorem boxes_outs : ∀ {qs : List PS} {p : Nat} {ds : List DL} {vs : List Value}, allB bxs qs = true → (OutsRep ρ w p qs ds vs ↔ ParsRep ρ w p qs ds vs)
  | [], p, ds, vs, _ => Iff.rfl
  | q :: qs, p, ds, vs, hq => by
    obtain ⟨hq1, hq2⟩ := allB_tail hq
    cases q with
    | bx ls =>
      constructor
      · rintro ⟨d1, d2, v, vs', e1, e2, h1, h2⟩
        exact ⟨d1, d2, v, vs', e1, e2, h1, (boxes_outs hq2).1 h2⟩
      · rintro ⟨d1, d2, v, vs', e1, e2, h1, h2⟩
        exact ⟨d1, d2, v, vs', e1, e2, h1, (boxes_outs hq2).2 h2⟩
    | _ => cases hq1
theorem dats_tr (hf : Free w (Ow ρ) w' (Ow ρ')) : ∀ {as : List Ty} {p p' : Nat} {ds : List DL} {vs : List Value}, ParsRep ρ w p (as.map fun t => PS.v (.dat t)) ds vs → ParsRep ρ' w' p' (as.map fun t => PS.v (.dat t)) ds vs
  | [], p, p', ds, vs, h => h
  | t :: as, p, p', ds, vs, ⟨d1, d2, v, vs', e1, e2, ⟨x, e3, h1⟩, h2⟩ => ⟨d1, d2, v, vs', e1, e2, ⟨x, e3, h1.mono hf⟩, dats_tr hf h2⟩
theorem dats_outs : ∀ {as : List Ty} {p : Nat} {ds : List DL} {vs : List Value}, OutsRep ρ w p (as.map fun t => PS.v (.dat t)) ds vs → ds = []
  | [], p, ds, vs, h => h.1
  | t :: as, p, ds, vs, ⟨d1, d2, v, vs', e1, e2, h1, h2⟩ => by
    have h1 : d1 = [] := h1
    rw [e1, h1, dats_outs h2]; rfl
theorem datsB_eq : ∀ {qs : List PS} {as : List Ty}, datsB qs as = true → qs = as.map fun t => PS.v (.dat t)
  | [], [], _ => rfl
  | .v (.dat t) :: qs, t' :: ts, h => by
    simp only [datsB] at h
    split at h
    · rename_i e
      obtain rfl := Ty.eq_of_beq e
      rw [List.map_cons, ← datsB_eq h]
    · cases h
  | [], _ :: _, h => by cases h
  | .v (.dat _) :: _, [], h => by cases h
  | .v (.arr _) :: _, _, h => by cases h
  | .v (.omp _ _) :: _, _, h => by cases h
  | .mu _ :: _, _, h => by cases h
  | .ep _ :: _, _, h => by cases h
  | .bx _ :: _, _, h => by cases h
  | .fn :: _, _, h => by cases h
theorem resB_eq {rs : List RS} {b : Ty} (h : resB rs b = true) : rs = [.v (.dat b)] := by
  unfold resB at h
  split at h
  · rw [Ty.eq_of_beq h]
  · cases h

/-! ### a closure's variables are its memory -/
def CapK (n : Nat) (cps : List PS) (cty : List Ty) (ptrs : Array Value) (s : El (outTy cty)) (w : World) (M O : Nat → Prop) : Prop :=
  allB bxs cps = true ∧ ∃ ρc : Nat → Option Own, (∀ b, O b → Ow ρc b) ∧ (∀ b o, ρc b = some o → o ≠ .ext → M b) ∧ ParsRep ρc w n cps (unOut cty s) ptrs.toList
open Classical in
theorem CapK.stable {n : Nat} {cps : List PS} {cty : List Ty} {ptrs : Array Value} {s : El (outTy cty)} {M M' O O' : Nat → Prop} (h : CapK n cps cty ptrs s w M O) (h1 : ∀ b, M b → w'.heap[b]? = w.heap[b]?) (h2 : Free w O w' O') (h3 : ∀ b, M b → M' b) : CapK n cps cty ptrs s w' M' O' := by
  obtain ⟨hb, ρc, c1, c2, c3⟩ := h
  refine ⟨hb, fun b => match ρc b with | some o => some o | none => if O' b then some .ext else none, fun b hO => ?_, fun b o h ho => ?_, ?_⟩
  · show (match ρc b with | some o => some o | none => if O' b then some Own.ext else none) ≠ none
    cases ρc b with
    | none => simp [hO]
    | some o => simp
  · cases hc : ρc b with
    | none =>
      simp only [hc] at h
      split at h
      · cases h; exact absurd rfl ho
      · cases h
    | some o' => simp only [hc] at h; cases h; exact h3 b (c2 b _ hc ho)
  · refine boxes_tr (p := n) (p' := n) (m := 0) (fun k b e => ⟨h1 b (c2 b _ e (by simp)), by simp only [e]⟩) (fun k j b e => ⟨h1 b (c2 b _ e (by simp)), by simp only [e]⟩) (fun b hb hn => ?_) hb c3
    have hO : ¬ O b := fun h => hn (c1 b h)
    obtain ⟨e1, e2⟩ := h2 b hb hO
    refine ⟨e1, fun h => h ?_⟩
    have : ρc b = none := Classical.byContradiction fun h => hn h
    show (match ρc b with | some o => some o | none => if O' b then some Own.ext else none) = none
    rw [this]
    simp [e2]
def capClo (f n : Nat) (cps : List PS) (cty : List Ty) (ptrs : Array Value) : CloRep (El (outTy cty)) :=
  ⟨.func (.func f) #[] ptrs, ⟨_, _, _, rfl⟩, CapK n cps cty ptrs, fun h _ h1 h2 h3 => CapK.stable h h1 h2 h3⟩
end
end Go.Proofs.Ytbgefphoochgcaa.FE
/- FE, part 29: a closure of the function's own does what its function does; a function that takes it. -/
namespace Go.Proofs.Ytbgefphoochgcaa.FE
open Go
set_option linter.unusedVariables false
set_option linter.unusedSimpArgs false
section
variable {P : Program} {w w' : World} {ρ ρ' : Nat → Option Own}
/-- Behind a closure's call: what it owns. -/
def ρcl (ρ ρ2 : Nat → Option Own) : Nat → Option Own := fun b => match ρ b with
  | some .om => (ρ2 b).map fun _ => .om
  | none => (ρ2 b).map fun _ => .om
  | some o => some o
theorem ρcl_keep {b : Nat} {o : Own} (h : ρ b = some o) (ho : o ≠ .om) : ρcl ρ ρ' b = some o := by
  unfold ρcl
  rw [h]
  cases o <;> first | rfl | exact absurd rfl ho
theorem ρcl_else {b : Nat} (h : ρ b = none ∨ ρ b = some .om) : ρcl ρ ρ' b = (ρ' b).map fun _ => .om := by
  unfold ρcl
  rcases h with h | h <;> rw [h]
theorem cap_ok {fn : Fun} {f : Nat} {as : List Ty} {b : Ty} (hs : Sound P f fn) (h1 : datsB (fn.sig.pars.take as.length) as = true) (h2 : resB fn.sig.res b = true) (ptrs : Array Value) :
    CloOk P (capClo f as.length (fn.sig.pars.drop as.length) (capTys fn as.length) ptrs) as b (cloG fn as b (capTys fn as.length)) := by
  intro ρ w args s x y hy hlt hK hp
  obtain ⟨hb, ρc, c1, c2, c3⟩ := hK
  have e0 : fn.sig.pars = (as.map fun t => PS.v (.dat t)) ++ fn.sig.pars.drop as.length := by
    rw [← datsB_eq h1, List.take_append_drop]
  simp only [cloG, Option.bind_eq_some_iff] at hy
  obtain ⟨z, hz, y0, hy0, hy⟩ := hy
  have ez := mkTup_un hz
  refine ⟨f, ptrs, rfl, hs.enter _ _, ?_⟩
  have ow : ∀ b, Ow (fun b => (ρ b).bind fun _ => ρc b) b ↔ Ow ρ b := by
    intro b
    constructor
    · intro h e
      refine h ?_
      show (ρ b).bind _ = none
      rw [e]; rfl
    · intro h e
      cases hb : ρ b with
      | none => exact h hb
      | some o =>
        have e' : (ρ b).bind (fun _ => ρc b) = none := e
        rw [hb] at e'
        exact c1 b h e'
  have hlen : (as.map fun t => PS.v (.dat t)).length = as.length := by simp
  have hp' : ParsRep (fun b => (ρ b).bind fun _ => ρc b) w 0 fn.sig.pars (unTup _ z) (args ++ ptrs).toList := by
    rw [ez, e0, Array.toList_append]
    refine pars_app (dats_tr (fun b _ hn => ⟨rfl, fun h => hn ((ow b).1 h)⟩) hp) ?_
    rw [hlen, Nat.zero_add]
    refine boxes_tr (p := as.length) (p' := as.length) (m := 0) (fun k b e => ⟨rfl, ?_⟩) (fun k j b e => ⟨rfl, ?_⟩) (fun b _ hn => ⟨rfl, fun h => hn ?_⟩) hb c3
    · show (ρ b).bind _ = _
      have : ρ b = some .om := c2 b _ e (by simp)
      rw [this]; exact e
    · show (ρ b).bind _ = _
      have : ρ b = some .om := c2 b _ e (by simp)
      rw [this]; exact e
    · exact c1 b ((ow b).1 h)
  refine (hs.calls _ w (args ++ ptrs) z y0 hy0 (fun b h => hlt b ((ow b).1 h)) hp').mono ?_
  rintro e w' ⟨v, ρ2, rfl, hfr, hlt', d1, d2, ey, hra, hou⟩
  rw [resB_eq h2] at hra
  obtain ⟨x1, rfl, hx1⟩ : ∃ x, d1 = [⟨b, x⟩] ∧ RepV w' (Ow ρ2) b x v := hra
  rw [ey] at hy
  simp only [List.cons_append, List.nil_append, Option.bind_eq_some_iff] at hy
  obtain ⟨r, hr, s', hs', hy⟩ := hy
  cases hy
  rw [cast_self] at hr
  cases hr
  have es := mkOut_un hs'
  -- what isn't the closure's stays
  have keep : ∀ b o, ρ b = some o → o ≠ .om → w'.heap[b]? = w.heap[b]? ∧ ρ2 b = some .ext := by
    intro b o h ho
    have hO : Ow ρ b := by unfold Ow; rw [h]; simp
    cases hc : ρc b with
    | none => exact absurd hc (c1 b hO)
    | some o' =>
      have : o' = .ext := Classical.byContradiction fun hne => by
        have : ρ b = some .om := c2 b o' hc hne
        rw [h] at this
        cases this
        exact ho rfl
      subst this
      exact hfr.ext b (by show (ρ b).bind _ = _; rw [h]; exact hc)
  have sub : ∀ b, Ow (ρcl ρ ρ2) b → Ow ρ2 b := by
    intro b h e
    rcases onOff ρ b with h1 | ⟨o, h1, h2⟩
    · refine h ?_
      rw [ρcl_else h1, e]; rfl
    · rw [(keep b o h1 h2).2] at e; cases e
  have om_of : ∀ b o, ρ2 b = some o → o ≠ .ext → ρcl ρ ρ2 b = some .om := by
    intro b o h ho
    rcases onOff ρ b with h1 | ⟨o', h1, h2⟩
    · rw [ρcl_else h1, h]; rfl
    · rw [(keep b o' h1 h2).2] at h
      cases h
      exact absurd rfl ho
  refine ⟨v, ρcl ρ ρ2, rfl, ⟨hfr.os, hfr.tape, hfr.output, hfr.size, fun b hb hn => ?_, fun b o h ho => ⟨(keep b o h ho).1, ρcl_keep h ho⟩⟩, fun b h => hlt' b (sub b h), hx1.mono fun b _ h => ⟨rfl, fun h' => h (sub b h')⟩, hb, ρ2, sub, fun b o h ho => om_of b o h ho, ?_⟩
  · obtain ⟨e1, e2⟩ := hfr.free b hb (fun h => hn ((ow b).1 h))
    exact ⟨e1, fun h => e2 (sub b h)⟩
  · rw [e0, Array.toList_append] at hou
    obtain ⟨k1, k2, v1, v2, e1, e2, o1, o2⟩ := outs_split hou
    have hk1 := dats_outs o1
    subst hk1
    have hl1 : args.toList.length = v1.length := by
      have h3 := outs_len o1
      have h4 := pars_len hp
      rw [h3, ← h4]
    obtain ⟨rfl, rfl⟩ := List.append_inj e2 hl1
    rw [hlen, Nat.zero_add] at o2
    rw [es]
    have : d2 = k2 := by simpa using e1
    rw [this]
    exact (boxes_outs hb).1 o2
/-- Within: the variables' blocks are the closure's memory. -/
def capO (n1 : Nat) : Own → Own
  | .bx id => if n1 ≤ id.2.2 then .om else .bx id
  | .at_ (.box id j) => if n1 ≤ id.2.2 then .om else .at_ (.box id j)
  | o => o
def reix (n1 n : Nat) : Own → Own
  | .bx id => if n1 ≤ id.2.2 then .bx (0, 0, id.2.2 - n1 + n) else .ext
  | .at_ (.box id j) => if n1 ≤ id.2.2 then .at_ (.box (0, 0, id.2.2 - n1 + n) j) else .ext
  | _ => .ext
def backO (n n1 : Nat) : Own → Option Own
  | .bx id => some (.bx (0, 0, id.2.2 - n + n1))
  | .at_ (.box id j) => some (.at_ (.box (0, 0, id.2.2 - n + n1) j))
  | _ => none
theorem par_tr {p n1 : Nat} {q : PS} {ds : List DL} {v : Value} (hp : p < n1) (h : ParRep ρ w p q ds v) : ParRep (fun b => (ρ b).map (capO n1)) w p q ds v := by
  have ow : ∀ b, ¬ Ow ρ b → ¬ Ow (fun b => (ρ b).map (capO n1)) b := by
    intro b h h'
    refine h' ?_
    have : ρ b = none := Classical.byContradiction fun e => h e
    show (ρ b).map _ = none
    rw [this]; rfl
  have hf : Free w (Ow ρ) w (Ow (fun b => (ρ b).map (capO n1))) := fun b _ h => ⟨rfl, ow b h⟩
  have hn : ¬ n1 ≤ p := by omega
  have at_ : ∀ b, ρ b = some (.at_ (.tmp p)) → w.heap[b]? = w.heap[b]? ∧ (fun b => (ρ b).map (capO n1)) b = some (.at_ (.tmp p)) := fun b hb => ⟨rfl, by show (ρ b).map _ = _; rw [hb]; rfl⟩
  cases q with
  | v s =>
    cases s with
    | dat t => obtain ⟨x, e, h⟩ := h; exact ⟨x, e, h.mono hf⟩
    | arr e => obtain ⟨x, e, h⟩ := h; exact ⟨x, e, h.tr2 at_ hf⟩
    | omp k u => obtain ⟨x, e, h⟩ := h; exact ⟨x, e, h.tr2 at_ hf⟩
  | mu s => obtain ⟨x, e, h⟩ := h; exact ⟨x, e, h.tr2 at_ hf⟩
  | ep t => obtain ⟨x, b, off, l, e, hv, hb, hr, hat⟩ := h; exact ⟨x, b, off, l, e, hv, ow b hb, hr.mono hf, hat⟩
  | bx ls =>
    have h' : BoxRep ρ w (0, 0, p) ls ds v := h
    exact BoxRep.tr2 h' (fun b hb => ⟨rfl, by show (ρ b).map _ = _; rw [hb]; simp [capO, hn]⟩) (fun j b hb => ⟨rfl, by show (ρ b).map _ = _; rw [hb]; simp [capO, hn]⟩) hf
  | fn => exact h
theorem pars_tr {n1 : Nat} : ∀ {qs : List PS} {p : Nat} {ds : List DL} {vs : List Value}, p + qs.length ≤ n1 → ParsRep ρ w p qs ds vs → ParsRep (fun b => (ρ b).map (capO n1)) w p qs ds vs
  | [], p, ds, vs, _, h => h
  | q :: qs, p, ds, vs, hp, ⟨d1, d2, v, vs', e1, e2, h1, h2⟩ => by
    rw [List.length_cons] at hp
    exact ⟨d1, d2, v, vs', e1, e2, par_tr (by omega) h1, pars_tr (by omega) h2⟩
section
variable (hk : ∀ b o, ρ b = some o → o ≠ .om → o ≠ .ext → ρ' b = some o) (hf : ∀ b, ¬ Ow ρ b → ¬ Ow ρ' b)
include hk hf
theorem out_tr {p : Nat} {q : PS} {ds : List DL} {v : Value} (h : OutRep ρ w p q ds v) : OutRep ρ' w p q ds v := by
  have hf' : Free w (Ow ρ) w (Ow ρ') := fun b _ h => ⟨rfl, hf b h⟩
  cases q with
  | mu s => obtain ⟨x, e, h⟩ := h; exact ⟨x, e, h.tr2 (fun b hb => ⟨rfl, hk b _ hb (by simp) (by simp)⟩) hf'⟩
  | bx ls =>
    have h' : BoxRep ρ w (0, 0, p) ls ds v := h
    exact BoxRep.tr2 h' (fun b hb => ⟨rfl, hk b _ hb (by simp) (by simp)⟩) (fun j b hb => ⟨rfl, hk b _ hb (by simp) (by simp)⟩) hf'
  | _ => exact h
theorem outs_tr : ∀ {qs : List PS} {p : Nat} {ds : List DL} {vs : List Value}, OutsRep ρ w p qs ds vs → OutsRep ρ' w p qs ds vs
  | [], p, ds, vs, h => h
  | q :: qs, p, ds, vs, ⟨d1, d2, v, vs', e1, e2, h1, h2⟩ => ⟨d1, d2, v, vs', e1, e2, out_tr hk hf h1, outs_tr h2⟩
theorem res_tr {n : Nat} {r : RS} {ds : List DL} {v : Value} (h : ResRep ρ w n r ds v) : ResRep ρ' w n r ds v := by
  have hf' : Free w (Ow ρ) w (Ow ρ') := fun b _ h => ⟨rfl, hf b h⟩
  cases r with
  | v s =>
    cases s with
    | dat t => obtain ⟨x, e, h⟩ := h; exact ⟨x, e, h.mono hf'⟩
    | arr e => obtain ⟨x, e, h⟩ := h; exact ⟨x, e, h.tr2 (fun b hb => ⟨rfl, hk b _ hb (by simp) (by simp)⟩) hf'⟩
    | omp k u => obtain ⟨x, e, h⟩ := h; exact ⟨x, e, h.tr2 (fun b hb => ⟨rfl, hk b _ hb (by simp) (by simp)⟩) hf'⟩
  | bx ls =>
    have h' : BoxRep ρ w (0, 1, n) ls ds v := h
    exact BoxRep.tr2 h' (fun b hb => ⟨rfl, hk b _ hb (by simp) (by simp)⟩) (fun j b hb => ⟨rfl, hk b _ hb (by simp) (by simp)⟩) hf'
theorem ress_tr : ∀ {rs : List RS} {n : Nat} {ds : List DL} {vs : List Value}, ResList ρ w n rs ds vs → ResList ρ' w n rs ds vs
  | [], n, ds, vs, h => h
  | r :: rs, n, ds, vs, ⟨d1, d2, v, vs', e1, e2, h1, h2⟩ => ⟨d1, d2, v, vs', e1, e2, res_tr hk hf h1, ress_tr h2⟩
theorem resAll_tr : ∀ {rs : List RS} {ds : List DL} {v : Value}, ResAll ρ w rs ds v → ResAll ρ' w rs ds v
  | [], ds, v, h => h
  | [r], ds, v, h => res_tr hk hf h
  | r :: r' :: rs, ds, v, ⟨us, e, h⟩ => ⟨us, e, ress_tr hk hf h⟩
end
theorem hof_ext {h : Hof} {hf : Nat} {f n : Nat} {cps : List PS} {cty : List Ty} {ptrs : Array Value} {g : El (outTy cty) → Tup h.as → Option (El h.b × El (outTy cty))} (hsh : SoundH P hf h) (hclo : CloOk P (capClo f n cps cty ptrs) h.as h.b g) (hb : allB bxs cps = true)
    {args : Array Value} {s : El (outTy cty)} {x : Tup h.sig.ins} {y : El (outTy h.sig.outs) × El (outTy cty)} (hy : h.f _ g s x = some y) (hlt : ∀ b, Ow ρ b → b < w.heap.size)
    (hp1 : ParsRep ρ w 0 h.sig.pars (unTup _ x) args.toList) (hp2 : ParsRep ρ w h.sig.pars.length cps (unOut cty s) ptrs.toList) (hfn : FnAt (capClo f n cps cty ptrs) h.sig.pars args.toList) :
    Calls P hf args w fun e w' => ∃ v ρ', e = .returned v ∧ Fr ρ w ρ' w' ∧ (∀ b, Ow ρ' b → b < w'.heap.size) ∧ ∃ d1 d2, unOut h.sig.outs y.1 ++ unOut cty y.2 = d1 ++ d2 ∧ ResAll ρ' w' h.sig.res d1 v ∧ OutsRep ρ' w' 0 (h.sig.pars ++ cps) d2 (args.toList ++ ptrs.toList) := by
  have owh : ∀ b, Ow (fun b => (ρ b).map (capO h.sig.pars.length)) b ↔ Ow ρ b := by
    intro b
    show (ρ b).map _ ≠ none ↔ ρ b ≠ none
    cases ρ b <;> simp
  have owc : ∀ b, Ow (fun b => (ρ b).map (reix h.sig.pars.length n)) b ↔ Ow ρ b := by
    intro b
    show (ρ b).map _ ≠ none ↔ ρ b ≠ none
    cases ρ b <;> simp
  have hK : CapK n cps cty ptrs s w (fun b => (fun b => (ρ b).map (capO h.sig.pars.length)) b = some .om) (Ow fun b => (ρ b).map (capO h.sig.pars.length)) := by
    refine ⟨hb, fun b => (ρ b).map (reix h.sig.pars.length n), fun b hO => (owc b).2 ((owh b).1 hO), fun b o e ho => ?_, ?_⟩
    · simp only [Option.map_eq_some_iff] at e
      obtain ⟨o1, e1, e2⟩ := e
      show (ρ b).map _ = _
      rw [e1, Option.map_some]
      cases o1 with
      | bx id =>
        by_cases hi : h.sig.pars.length ≤ id.2.2
        · simp [capO, hi]
        · simp [reix, hi] at e2; exact absurd e2.symm ho
      | at_ l =>
        cases l with
        | box id j =>
          by_cases hi : h.sig.pars.length ≤ id.2.2
          · simp [capO, hi]
          · simp [reix, hi] at e2; exact absurd e2.symm ho
        | _ => exact absurd e2.symm ho
      | _ => exact absurd e2.symm ho
    · exact boxes_tr (p := h.sig.pars.length) (p' := n) (m := 0) (fun k b e => ⟨rfl, by show (ρ b).map _ = _; rw [e]; simp [reix, Nat.add_sub_cancel_left, Nat.add_comm]⟩) (fun k j b e => ⟨rfl, by show (ρ b).map _ = _; rw [e]; simp [reix, Nat.add_sub_cancel_left, Nat.add_comm]⟩) (fun b _ hn => ⟨rfl, fun h => hn ((owc b).1 h)⟩) hb hp2
  refine (hsh.calls _ (capClo f n cps cty ptrs) g hclo (fun b => (ρ b).map (capO h.sig.pars.length)) w args s x y hy (fun b hO => hlt b ((owh b).1 hO)) (pars_tr (by omega) hp1) hfn hK).mono ?_
  rintro e w' ⟨v, ρ1, rfl, hfr, hlt', ⟨d1, d2, ey, hra, hou⟩, hb', ρc, c1, c2, c3⟩
  have fwd : ∀ b o, ρ1 b = some o → o ≠ .om → (fun b => match ρ1 b with | some .om => (ρc b).bind (backO n h.sig.pars.length) | x => x) b = some o := by
    intro b o e ho
    show (match ρ1 b with | some .om => (ρc b).bind (backO n h.sig.pars.length) | x => x) = some o
    rw [e]
    cases o <;> first | rfl | exact absurd rfl ho
  have sub : ∀ b, ¬ Ow ρ1 b → ¬ Ow (fun b => match ρ1 b with | some .om => (ρc b).bind (backO n h.sig.pars.length) | x => x) b := by
    intro b h h'
    have e : ρ1 b = none := Classical.byContradiction fun h2 => h h2
    refine h' ?_
    show (match ρ1 b with | some .om => (ρc b).bind (backO n _) | x => x) = none
    rw [e]
  refine ⟨v, fun b => match ρ1 b with | some .om => (ρc b).bind (backO n h.sig.pars.length) | x => x, rfl, ⟨hfr.os, hfr.tape, hfr.output, hfr.size, fun b hb hn => ?_, fun b hb => ?_⟩, fun b hO => hlt' b (Classical.byContradiction fun h => sub b h hO), d1, d2 ++ unOut cty y.2, by rw [ey, List.append_assoc], resAll_tr (fun b o e h1 _ => fwd b o e h1) sub hra, ?_⟩
  · obtain ⟨e1, e2⟩ := hfr.free b hb (fun h => hn ((owh b).1 h))
    exact ⟨e1, sub b e2⟩
  · obtain ⟨e1, e2⟩ := hfr.ext b (by show (ρ b).map _ = _; rw [hb]; rfl)
    exact ⟨e1, fwd b _ e2 (by simp)⟩
  · refine outs_app (outs_tr (fun b o e h1 _ => fwd b o e h1) sub hou) ?_
    rw [Nat.zero_add]
    refine (boxes_outs hb).2 (boxes_tr (p := n) (p' := h.sig.pars.length) (m := 0) (fun k b e => ⟨rfl, ?_⟩) (fun k j b e => ⟨rfl, ?_⟩) (fun b _ hn => ⟨rfl, fun h => hn (c1 b (Classical.byContradiction fun h2 => sub b h2 h))⟩) hb c3)
    · have h1 : ρ1 b = some .om := c2 b _ e (by simp)
      show (match ρ1 b with | some .om => (ρc b).bind (backO n h.sig.pars.length) | x => x) = _
      rw [h1, e]
      simp [backO, Nat.add_sub_cancel_left, Nat.add_comm]
    · have h1 : ρ1 b = some .om := c2 b _ e (by simp)
      show (match ρ1 b with | some .om => (ρc b).bind (backO n h.sig.pars.length) | x => x) = _
      rw [h1, e]
      simp [backO, Nat.add_sub_cancel_left, Nat.add_comm]
end
end Go.Proofs.Ytbgefphoochgcaa.FE
/- FE, part 30: closures: made, called, handed over. -/
namespace Go.Proofs.Ytbgefphoochgcaa.FE
open Go
set_option linter.unusedVariables false
set_option linter.unusedSimpArgs false
section
variable {Ω : Type} {C : CloRep Ω} {P : Program} {T : Tab} {N : Nat}
variable {rc i : Nat} {dst : Option Nat} {ty : Nat} {pos : String} {after : Array Edge} {guard : Option (Nat × Bool)}
variable {G G1 : Ghost} {used used2 : Id → Prop} {st ws : S Ω} {a : Act} {w w' : World} {acc rs : List Loc} {K : Act → World → Prop} {Q : Exit → Act → World → Prop} {ρ ρ' : Nat → Option Own}
theorem capG_runs (hr : Rep C G N used st a w) : ∀ {os : List Operand} {f : List (Id × Nat × Nat) → Prg Ω} {acc : List Loc}, (capG os f).Runs st acc rs ws →
    ∃ (cs : List (Id × Nat × Nat)) (acc' : List Loc) (bs : List Nat), (f cs).Runs st acc' rs ws ∧ bs.length = cs.length ∧ (∀ (j : Nat) b c, bs[j]? = some b → cs[j]? = some c → G.β c.1 = some (b, c.2.2)) ∧ os.map a.eval = (bs.zip cs).map fun p => Value.pointer (some ⟨p.1, p.2.2.1, none⟩)
  | [], f, acc, h => ⟨[], acc, [], h, rfl, fun j b c h => by simp at h, rfl⟩
  | o :: os, f, acc, h => by
    have h' : Prg.Runs st (opG o fun v => match v with
      | .one (.ref id off n) => capG os fun cs => f ((id, off, n) :: cs)
      | _ => .fail) acc rs ws := h
    obtain ⟨v, acc1, h', hv, -⟩ := runs_opG hr h'
    split at h'
    · rename_i id off n
      obtain ⟨b, hb, e⟩ := hv
      obtain ⟨cs, acc2, bs, h2, h3, h4, h5⟩ := capG_runs hr (f := fun cs => f ((id, off, n) :: cs)) h'
      refine ⟨(id, off, n) :: cs, acc2, b :: bs, h2, by simp [h3], fun j b' c e1 e2 => ?_, by simp [e, h5]⟩
      cases j with
      | zero => cases e1; cases e2; exact hb
      | succ j => exact h4 j b' c (by simpa using e1) (by simpa using e2)
    · exact h'.elim
theorem ok_makeFunc {f : Nat} {first cap : Array Operand} (hd : ∀ d, dst = some d → d < N) : OpOk P C N rc i ⟨dst, .makeFunc (.func f) first cap, ty, pos, after, guard⟩
    (match first.toList with
      | [] => capG cap.toList fun cs => putP ⟨dst, .makeFunc (.func f) first cap, ty, pos, after, guard⟩ (.one (.clo f cs))
      | _ => .fail) := by
  intro G used st a w acc rs ws hr hf h K Q hK
  split at h
  · rename_i hfst
    obtain rfl : first = #[] := Array.toList_eq_nil_iff.1 hfst
    obtain ⟨cs, acc', bs, h2, h3, h4, h5⟩ := capG_runs hr h
    refine fin_any hd hr hK h2 trivial (v := .func (.func f) #[] (cap.map a.eval)) (by simp [execOp, Instr.makeFunc]) ⟨bs, h3, h4, ?_⟩
    have : cap.map a.eval = ((bs.zip cs).map fun p => Value.pointer (some ⟨p.1, p.2.2.1, none⟩)).toArray := by
      apply Array.toList_inj.1
      simp [h5]
    rw [this]
  · exact h.elim
theorem capsP_ok : ∀ {caps : List (Id × Nat × Nat)} {qs : List PS} {cs : List Pln} {bs : List Nat}, capsP caps qs = some cs → bs.length = caps.length → (∀ (j : Nat) b c, bs[j]? = some b → caps[j]? = some c → G.β c.1 = some (b, c.2.2)) →
    PlnsOk false G w qs cs ((bs.zip caps).map fun p => Value.pointer (some ⟨p.1, p.2.2.1, none⟩)) ∧ allB bxs qs = true
  | [], [], cs, bs, h, hl, _ => by
    cases h
    obtain rfl : bs = [] := List.length_eq_zero_iff.1 hl
    exact ⟨trivial, rfl⟩
  | c :: caps, .bx ls :: qs, cs, [], h, hl, _ => by cases hl
  | c :: caps, .bx ls :: qs, cs, b :: bs, h, hl, hβ => by
    simp only [capsP] at h
    split at h
    · rename_i hc
      simp only [Bool.and_eq_true] at hc
      obtain ⟨k1, k2, k3⟩ := hc
      have k1 := Nat.eq_of_beq_eq_true k1
      have k2 := Nat.eq_of_beq_eq_true k2
      have k3 : 0 < c.2.2 := Nat.le_of_ble_eq_true k3
      simp only [Option.bind_eq_some_iff] at h
      obtain ⟨r, hr, h⟩ := h
      cases h
      obtain ⟨h1, h2⟩ := capsP_ok (bs := bs) hr (by simpa using hl) (fun j b' c' e1 e2 => hβ (j + 1) b' c' (by simpa using e1) (by simpa using e2))
      refine ⟨⟨⟨rfl, by omega, b, ?_, by simp only [k1]⟩, h1⟩, by simp only [allB, bxs]; exact h2⟩
      have := hβ 0 b c rfl rfl
      rw [this, k2]
    · cases h
  | [], _ :: _, cs, bs, h, _, _ => by cases h
  | _ :: _, [], cs, bs, h, _, _ => by cases h
  | _ :: _, .v _ :: _, cs, bs, h, _, _ => by cases h
  | _ :: _, .mu _ :: _, cs, bs, h, _, _ => by cases h
  | _ :: _, .ep _ :: _, cs, bs, h, _, _ => by cases h
  | _ :: _, .fn :: _, cs, bs, h, _, _ => by cases h
theorem plnsOk_app : ∀ {A B : List PS} {x1 x2 : List Pln} {v1 v2 : List Value}, PlnsOk false G w A x1 v1 → PlnsOk false G w B x2 v2 → PlnsOk false G w (A ++ B) (x1 ++ x2) (v1 ++ v2)
  | [], B, [], x2, [], v2, _, k => k
  | q :: A, B, x :: x1, x2, v :: v1, v2, h, k => ⟨h.1, plnsOk_app h.2 k⟩
  | [], _, _ :: _, _, _, _, h, _ => h.elim
  | [], _, [], _, _ :: _, _, h, _ => h.elim
  | _ :: _, _, [], _, _, _, h, _ => h.elim
  | _ :: _, _, _ :: _, _, [], _, h, _ => h.elim
theorem plnsOk_len : ∀ {A : List PS} {x1 : List Pln} {v1 : List Value}, PlnsOk false G w A x1 v1 → x1.length = A.length ∧ v1.length = A.length
  | [], [], [], _ => ⟨rfl, rfl⟩
  | q :: A, x :: x1, v :: v1, h => by
    obtain ⟨h1, h2⟩ := plnsOk_len h.2
    exact ⟨by simp [h1], by simp [h2]⟩
  | [], _ :: _, _, h => h.elim
  | [], [], _ :: _, h => h.elim
  | _ :: _, [], _, h => h.elim
  | _ :: _, _ :: _, [], h => h.elim
theorem plnsRep_app {VA : Loc → Value → Prop} : ∀ {A B : List PS} {p : Nat} {x1 x2 : List Pln} {d1 d2 : List DL} {v1 v2 : List Value}, PlnsRep VA false ρ w rc i p A x1 d1 v1 → PlnsRep VA false ρ w rc i (p + A.length) B x2 d2 v2 → PlnsRep VA false ρ w rc i p (A ++ B) (x1 ++ x2) (d1 ++ d2) (v1 ++ v2)
  | [], B, p, x1, x2, d1, d2, v1, v2, ⟨h1, h2, h3⟩, k => by subst h1 h2 h3; exact k
  | q :: A, B, p, _, x2, _, d2, _, v2, ⟨x, xs, e1, e2, v, vs, rfl, rfl, rfl, h4, h5⟩, k => by
    refine ⟨x, xs ++ x2, e1, e2 ++ d2, v, vs ++ v2, rfl, by rw [List.append_assoc], rfl, h4, plnsRep_app h5 ?_⟩
    rw [List.length_cons, show p + (A.length + 1) = p + 1 + A.length by omega] at k
    exact k
/-- A closure of the function's own, called. -/
theorem ok_callC {c : Call} {x : Operand} {f own : Nat} {fn : Fun} {caps : List (Id × Nat × Nat)} (hs : Sound P f fn) (hc : c.callee = .value x) (hd : ∀ d, dst = some d → d < N)
    (hr : Rep C G N used st a w) (hf : FreshAt used rc i) (hval : RepL C G w none (.clo f caps) (a.eval x)) (h : (callC fn own rc i ⟨dst, .call c, ty, pos, after, guard⟩ c.args.toList caps).Runs st acc rs ws)
    (hK : ∀ G' a' w', Fr G.ρ w G'.ρ w' → Rep C G' N (usedAt used rc i) (ws ++ st) a' w' → K a' w') : (⟨dst, .call c, ty, pos, after, guard⟩ : Oper).wp P a w K Q := by
  obtain ⟨xs, ws', ws2, acc', G1, rfl, h1, hm, hr1, hx⟩ := argsP_runs hf _ _ 0 (hr.mono fun _ h => .inl h) h
  obtain ⟨cs, hcs, h2⟩ := runs_opt h1
  rcases (runs_ite h2).symm with ⟨_, h3⟩ | ⟨hdist, h3⟩
  · exact h3.elim
  obtain ⟨bs, hbl, hβ, hv⟩ := hval
  obtain ⟨hcx, hbx⟩ := capsP_ok (G := G1) (w := w) hcs hbl (fun j b c h1 h2 => hm.β _ _ (hβ j b c h1 h2))
  have hall := plnsOk_app hx hcx
  rw [List.take_append_drop] at hall
  obtain ⟨ds, acc2, h4, hp⟩ := readPs_runs (i := i) hr1 _ (xs ++ cs) _ 0 hall h3
  obtain ⟨z, hz, h5⟩ := runs_opt h4
  obtain ⟨y, hy, h6⟩ := h5
  obtain ⟨ws3, hcr, h7⟩ := runs_opt h6
  obtain ⟨rfl, -⟩ := h7
  have hds := mkTup_un hz
  have hargs : (c.args.map a.eval ++ ((bs.zip caps).map fun p => Value.pointer (some ⟨p.1, p.2.2.1, none⟩)).toArray).toList = c.args.toList.map a.eval ++ (bs.zip caps).map fun p => Value.pointer (some ⟨p.1, p.2.2.1, none⟩) := by simp
  have hrun : (execOp a.eval ⟨dst, .call c, ty, pos, after, guard⟩).run P w = .ok (.enter f (c.args.map a.eval ++ ((bs.zip caps).map fun p => Value.pointer (some ⟨p.1, p.2.2.1, none⟩)).toArray)) w := by
    have := hs.enter (c.args.map a.eval ++ ((bs.zip caps).map fun p => Value.pointer (some ⟨p.1, p.2.2.1, none⟩)).toArray) w
    simp [execOp, Go.resolve, hc, hv, Deferred.ofValue, invoke] at this ⊢
    simp [this]
  refine call_main (o := ⟨dst, .call c, ty, pos, after, guard⟩) hd hr1 hall hp hdist hrun rfl hcr (fun s hs => usedA_new hf (by rw [Nat.zero_add, List.length_take]; omega)) (used3 := usedAt used rc i) ?_ (fun ρ k1 k2 => hs.calls ρ w _ z y hy k1 (by rw [hds, hargs]; exact k2) |>.mono (by
      rintro e w' ⟨v, ρ', h3, h4, h5, d1, d2, h6, h7, h8⟩
      rw [hargs] at h8
      exact ⟨v, ρ', h3, h4, h5, d1, d2, h6, h7, h8⟩)) (hK_step hm.fr hK)
  rintro id ((h | ⟨s, _, _, e⟩) | ⟨s, _, e⟩)
  · exact .inl h
  · exact .inr ⟨s, e⟩
  · exact .inr ⟨s, e⟩
/-- A function that takes a closure, with one of the function's own. -/
theorem ok_callHC {c : Call} {x : Operand} {f g own : Nat} {fn : Fun} {h : Hof} {caps : List (Id × Nat × Nat)} (hs : Sound P g fn) (hsh : SoundH P f h) (hc : c.callee = .value (.func f)) (hd : ∀ d, dst = some d → d < N)
    (hr : Rep C G N used st a w) (hf : FreshAt used rc i) (hx0 : fnOp h.sig.pars c.args.toList = some x) (ho : oneFn h.sig.pars = true) (hval : RepL C G w none (.clo g caps) (a.eval x)) (hh : (callHC fn h own rc i ⟨dst, .call c, ty, pos, after, guard⟩ c.args.toList caps).Runs st acc rs ws)
    (hK : ∀ G' a' w', Fr G.ρ w G'.ρ w' → Rep C G' N (usedAt used rc i) (ws ++ st) a' w' → K a' w') : (⟨dst, .call c, ty, pos, after, guard⟩ : Oper).wp P a w K Q := by
  rcases (runs_ite hh).symm with ⟨_, hh⟩ | ⟨hck, hh⟩
  · exact hh.elim
  rw [Bool.and_eq_true] at hck
  obtain ⟨xs, ws', ws2, acc', G1, rfl, h1, hm, hr1, hx⟩ := argsP_runs hf _ _ 0 (hr.mono fun _ h => .inl h) hh
  obtain ⟨cs, hcs, h2⟩ := runs_opt h1
  rcases (runs_ite h2).symm with ⟨_, h3⟩ | ⟨hdist, h3⟩
  · exact h3.elim
  obtain ⟨bs, hbl, hβ, hv⟩ := hval
  obtain ⟨hcx, hbx⟩ := capsP_ok (G := G1) (w := w) hcs hbl (fun j b c h1 h2 => hm.β _ _ (hβ j b c h1 h2))
  obtain ⟨ds, acc2, h4, hp⟩ := readPs_runs (i := i) hr1 _ xs _ 0 hx h3
  obtain ⟨es, acc3, h5, hp2⟩ := readPs_runs (i := i) hr1 _ cs _ h.sig.pars.length hcx h4
  obtain ⟨z, hz, h6⟩ := runs_opt h5
  obtain ⟨s, hs', h7⟩ := runs_opt h6
  obtain ⟨y, hy, h8⟩ := h7
  obtain ⟨ws3, hcr, h9⟩ := runs_opt h8
  obtain ⟨rfl, -⟩ := h9
  have hds := mkTup_un hz
  have hes := mkOut_un hs'
  have hargs : (c.args.map a.eval).toList = c.args.toList.map a.eval := by simp
  have hrun : (execOp a.eval ⟨dst, .call c, ty, pos, after, guard⟩).run P w = .ok (.enter f (c.args.map a.eval)) w := by
    have := hsh.enter (c.args.map a.eval) w
    simp [execOp, Go.resolve, hc, Act.eval, Deferred.ofValue, invoke, this]
  have hrep := plnsRep_app hp (by rw [Nat.zero_add]; exact hp2)
  have hclo := cap_ok hs hck.1 hck.2 ((bs.zip caps).map fun p => Value.pointer (some ⟨p.1, p.2.2.1, none⟩)).toArray
  refine call_main (o := ⟨dst, .call c, ty, pos, after, guard⟩) hd hr1 (plnsOk_app hx hcx) hrep hdist hrun rfl hcr (fun s hs => usedA_new hf (by rw [Nat.zero_add]; exact hs)) (used3 := usedAt used rc i) ?_ (fun ρ k1 k2 => ?_) (hK_step hm.fr hK)
  · rintro id ((h | ⟨s, _, _, e⟩) | ⟨s, _, e⟩)
    · exact .inl h
    · exact .inr ⟨s, e⟩
    · exact .inr ⟨s, e⟩
  · obtain ⟨d1, d2, v1, v2, e1, e2, p1, p2⟩ := pars_split k2
    have hl1 := pars_len p1
    obtain ⟨_, hl2⟩ := plnsOk_len hx
    obtain ⟨rfl, rfl⟩ := List.append_inj e2 (by rw [hl1, hl2])
    have hl3 := pars_dlen p1
    have hl4 : ds.length = (h.sig.pars.flatMap PS.tys).length := by rw [← hds, unTup_len]; rfl
    obtain ⟨rfl, rfl⟩ := List.append_inj e1 (by rw [hl3, hl4])
    rw [Nat.zero_add] at p2
    refine (hof_ext hsh hclo hbx hy k1 (by rw [hds, hargs]; exact p1) (by rw [hes]; exact p2) (by rw [hargs]; exact fnAt_one ho hx0 hv)).mono ?_
    rintro e w' ⟨v, ρ', q1, q2, q3, d1, d2, q4, q5, q6⟩
    rw [hargs] at q6
    exact ⟨v, ρ', q1, q2, q3, d1, d2, q4, q5, q6⟩
end
end Go.Proofs.Ytbgefphoochgcaa.FE
/- FE, part 28: all operations. -/
namespace Go.Proofs.Ytbgefphoochgcaa.FE
open Go
set_option linter.unusedVariables false
set_option linter.unusedSimpArgs false
section
variable {Ω : Type} {C : CloRep Ω} {P : Program} {T : Tab} {N : Nat}
variable {rc i : Nat}

/-- What is asked of an operation's text. -/
def noDst : Op → Bool | .store _ _ _ | .insert _ _ _ _ | .mapUpdate _ _ _ _ => true | _ => false
def opB (N : Nat) (o : Oper) : Bool :=
  match o.dst with | some d => and (Nat.blt d N) (not (noDst o.op)) | none => true
theorem opB_dst {o : Oper} (h : opB N o = true) : ∀ d, o.dst = some d → d < N := by
  intro d hd
  simp only [opB, hd, Bool.and_eq_true] at h
  exact Nat.le_of_ble_eq_true h.1
theorem opB_none {o : Oper} (h : opB N o = true) (hn : noDst o.op = true) : o.dst = none := by
  cases hd : o.dst with
  | none => rfl
  | some d =>
    simp only [opB, hd, Bool.and_eq_true] at h
    rw [hn] at h
    cases h.2
theorem ok_fail {o : Oper} : OpOk P C N rc i o .fail := fun _ _ h => h.elim
theorem opP_ok (hT : TabOk P T) {Φ : Env Ω} (hΦ : EnvOk P C Φ) {own : Nat} {frz : Bool} {o : Oper} (hb : opB N o = true) : OpOk P C N rc i o (opP T Φ own frz rc i o) := by
  obtain ⟨dst, op, ty, pos, after, guard⟩ := o
  have hd : ∀ d, dst = some d → d < N := opB_dst hb
  cases op with
  | move x => (intro G used st a w acc rs ws hr hf h K Q hK; exact ok_move hd hr hf h K Q hK)
  | assign x => (intro G used st a w acc rs ws hr hf h K Q hK; exact ok_assign hd frz hr hf h K Q hK)
  | pick c a b => (intro G used st a w acc rs ws hr hf h K Q hK; exact ok_pick hd hr hf h K Q hK)
  | alloc t => (intro G used st a w acc rs ws hr hf h K Q hK; exact ok_alloc hT hd hr hf h K Q hK)
  | box t x => (intro G used st a w acc rs ws hr hf h K Q hK; exact ok_box hT hd hr hf h K Q hK)
  | build t ps => (intro G used st a w acc rs ws hr hf h K Q hK; exact ok_build hT hd hr hf h K Q hK)
  | buildSlice t n ps => (intro G used st a w acc rs ws hr hf h K Q hK; exact ok_buildSlice hT hd hr hf h K Q hK)
  | insert t m k x => (intro G used st a w acc rs ws hr hf h K Q hK; exact ok_mapUpdateC hT (opB_none hb rfl) (fun ρ => rfl) hr hf h K Q hK)
  | mapUpdate t m k x => (intro G used st a w acc rs ws hr hf h K Q hK; exact ok_mapUpdateC hT (opB_none hb rfl) (fun ρ => rfl) hr hf h K Q hK)
  | load t x => (intro G used st a w acc rs ws hr hf h K Q hK; exact ok_load hT hd hr hf h K Q hK)
  | store t a x => (intro G used st a w acc rs ws hr hf h K Q hK; exact ok_store hT (opB_none hb rfl) hr hf h K Q hK)
  | nilCheck x => (intro G used st a w acc rs ws hr hf h K Q hK; exact ok_nilCheck hd hr hf h K Q hK)
  | binOp op t x y yt => (intro G used st a w acc rs ws hr hf h K Q hK; exact ok_binOp hT hd hr hf h K Q hK)
  | convert s t x => (intro G used st a w acc rs ws hr hf h K Q hK; exact ok_convert hT hd hr hf h K Q hK)
  | unOp op t x => (intro G used st a w acc rs ws hr hf h K Q hK; exact ok_unOp hd hr hf h K Q hK)
  | makeMap t r =>
    cases r with
    | none => (intro G used st a w acc rs ws hr hf h K Q hK; exact ok_makeMap hT hd hr hf h K Q hK)
    | some r => (intro G used st a w acc rs ws hr hf h K Q hK; exact ok_fail hr hf h K Q hK)
  | makeSlice t l c => (intro G used st a w acc rs ws hr hf h K Q hK; exact ok_makeSlice hT hd hr hf h K Q hK)
  | slice t x lo hi mx =>
    cases mx with
    | none => (intro G used st a w acc rs ws hr hf h K Q hK; exact ok_slice hT hd hr hf h K Q hK)
    | some r => (intro G used st a w acc rs ws hr hf h K Q hK; exact ok_fail hr hf h K Q hK)
  | makeFunc fn first cap =>
    cases fn with
    | func f => (intro G used st a w acc rs ws hr hf h K Q hK; exact ok_makeFunc hd hr hf h K Q hK)
    | _ => (intro G used st a w acc rs ws hr hf h K Q hK; exact ok_fail hr hf h K Q hK)
  | fieldAddr t x f => (intro G used st a w acc rs ws hr hf h K Q hK; exact ok_fieldAddr hT hd hr hf h K Q hK)
  | indexAddr t x ix => (intro G used st a w acc rs ws hr hf h K Q hK; exact ok_indexAddr hT hd hr hf h K Q hK)
  | lookup t x ix ok => (intro G used st a w acc rs ws hr hf h K Q hK; exact ok_lookup hT hd hr hf h K Q hK)
  | extract x j => (intro G used st a w acc rs ws hr hf h K Q hK; exact ok_extract hd hr hf h K Q hK)
  | call c =>
    intro G used st a w acc rs ws hr hf h K Q hK
    cases hc : c.callee with
    | builtin b =>
      cases b with
      | len => simp only [opP, hc] at h; exact ok_len hT hc hd hr hf h K Q hK
      | append => simp only [opP, hc] at h; exact ok_append hT hc hd hr hf h K Q hK
      | clear => simp only [opP, hc] at h; exact ok_clear hT hc hr hf h K Q hK
      | max => simp only [opP, hc] at h; exact ok_max hc hd hr hf h K Q hK
      | min => simp only [opP, hc] at h; exact ok_min hc hd hr hf h K Q hK
      | _ => simp only [opP, hc] at h; exact h.elim
    | value f =>
      cases f with
      | func f =>
        simp only [opP, hc] at h
        split at h
        · rename_i fn hfn
          exact ok_call (hΦ.funs f fn hfn) hc hd hr hf h K Q hK
        · obtain ⟨hh, hhf, h⟩ := runs_opt h
          rcases (runs_ite h).symm with ⟨_, h⟩ | ⟨ho, h⟩
          · exact h.elim
          obtain ⟨x, hx0, h⟩ := runs_opt h
          obtain ⟨v, acc1, h, hv, -⟩ := runs_opG hr h
          split at h
          · rename_i _ g caps
            obtain ⟨fn, hfn, h⟩ := runs_opt h
            exact ok_callHC (hΦ.funs g fn hfn) (hΦ.hofs f hh hhf) hc hd hr hf hx0 ho hv h hK
          · rename_i cl hcl
            cases hsc : and (allB scalar hh.as) (allB lookR hh.sig.res) with
            | false => rw [hsc] at h; exact ok_callHV (hΦ.clo cl hcl) (hΦ.hofs f hh hhf) hc hd hr hf hx0 ho hv h hK
            | true =>
              rw [hsc] at h
              rw [Bool.and_eq_true] at hsc
              exact ok_callHL (hΦ.clo cl hcl) (hΦ.hofs f hh hhf) hc hd hsc.1 hsc.2 hr hf hx0 ho hv h hK
          · exact h.elim
      | tmp t =>
        simp only [opP, hc] at h
        obtain ⟨v, acc1, h, hv, -⟩ := runs_opG hr h
        split at h
        · rename_i _ g caps
          obtain ⟨fn, hfn, h⟩ := runs_opt h
          exact ok_callC (hΦ.funs g fn hfn) hc hd hr hf hv h hK
        · rename_i cl hcl
          exact ok_callV (hΦ.clo cl hcl) hc hd hr hf hv h hK
        · exact h.elim
      | _ => simp only [opP, hc] at h; exact h.elim
    | invoke r n => simp only [opP, hc] at h; exact h.elim
  | _ => (intro G used st a w acc rs ws hr hf h K Q hK; exact ok_fail hr hf h K Q hK)
end
end Go.Proofs.Ytbgefphoochgcaa.FE
