/- FE, part 16: maps are made and written. -/
import Derived.Test.YtbgefphoochgcaaFeO
namespace Go.Proofs.Ytbgefphoochgcaa.FE
open Go
set_option linter.unusedVariables false
set_option linter.unusedSimpArgs false
section
variable {Ω : Type} {C : CloRep Ω} {P : Program} {T : Tab} {N : Nat}
variable {rc i : Nat} {dst : Option Nat} {ty : Nat} {pos : String} {after : Array Edge} {guard : Option (Nat × Bool)}
variable {G : Ghost} {used used' : Id → Prop} {st ws : S Ω} {a : Act} {w w' : World} {acc rs : List Loc} {o : Oper} {K : Act → World → Prop} {Q : Exit → Act → World → Prop}

theorem bytes_beq (a b : ByteArray) : (a == b) = true ↔ a = b := by
  cases a with | mk a => cases b with | mk b =>
  rw [show ((ByteArray.mk a == ByteArray.mk b) = (a == b)) from rfl, beq_iff_eq]
  simp
structure Changed (w w' : World) (b : Nat) (ob : Obj) : Prop where
  heap : w'.heap = w.heap.setIfInBounds b ob
  lt : b < w.heap.size
  os : w'.os = w.os
  tape : w'.tape = w.tape
  output : w'.output = w.output
theorem Changed.at_ {b : Nat} {ob : Obj} (h : Changed w w' b ob) : w'.heap[b]? = some ob := by rw [h.heap]; simp [h.lt]
theorem Changed.other {b x : Nat} {ob : Obj} (h : Changed w w' b ob) (hne : x ≠ b) : w'.heap[x]? = w.heap[x]? := by rw [h.heap, Array.getElem?_setIfInBounds_ne (Ne.symm hne)]
theorem Changed.size {b : Nat} {ob : Obj} (h : Changed w w' b ob) : w'.heap.size = w.heap.size := by rw [h.heap]; simp
theorem changed_step (hr : Rep C G N used st a w) {b : Nat} {l : Loc} (hρ : G.ρ b = some (.at_ l)) {ob : Obj} (hc : Changed w w' b ob) {L : Loc → Prop} (hL : L l) : Step G w G w' L where
  Γ _ _ h := h
  β _ _ h := h
  os := hc.os
  tape := hc.tape
  output := hc.output
  size := by rw [hc.size]; omega
  free b' hb' ho := by
    refine ⟨hc.other ?_, ho⟩
    intro e; subst e
    exact ho (show G.ρ b' ≠ none by rw [hρ]; simp)
  own b' l' h hn := by
    refine ⟨hc.other ?_, h⟩
    intro e; subst e
    rw [hρ] at h
    cases h
    exact hn hL
  ext b' h := by
    refine ⟨hc.other ?_, h⟩
    intro e; subst e
    rw [hρ] at h; cases h
  om b' h hn := by
    refine ⟨hc.other ?_, h⟩
    intro e; subst e
    rw [hρ] at h; cases h
  bx b' n id h := by
    obtain ⟨g1, c', el', g2, g3⟩ := hr.box id b' n h
    have hne : b' ≠ b := by intro e; subst e; rw [hρ] at g1; cases g1
    exact ⟨g1, ⟨c', el', (hc.other hne).trans g2, g3⟩, fun j _ => by simp [World.cell?, hc.other hne]⟩
  lt b' h := by rw [hc.size]; exact hr.lt b' h
  omr _ _ h _ := h
/-- What stands at a place changes, the place itself doesn't. -/
theorem RepAt.change {G' : Ghost} {l : Loc} {x y : Leaf Ω} (h : RepAt C G a w l (.one x)) (hx : x ≠ .dead) (ho : ∀ s, x ≠ .opq s) (hβ : ∀ id b, G.β id = some b → G'.β id = some b)
    (hcell : ∀ id b n j, G.β id = some (b, n) → w'.cell? ⟨b, j, none⟩ = w.cell? ⟨b, j, none⟩) (hm : ∀ v, RepL C G w (some l) x v → RepL C G' w' (some l) y v) : RepAt C G' a w' l (.one y) := by
  cases l with
  | tmp t => exact hm _ h
  | comp t i =>
    rcases h with h | ⟨v, h⟩
    · cases h; exact absurd rfl hx
    · exact .inr ⟨v, hm v h⟩
  | box id j =>
    rcases h with h | ⟨b, n, v, hb, hc, h⟩
    · cases h; exact absurd rfl hx
    · exact .inr ⟨b, n, v, hβ _ _ hb, (hcell id b n j hb).trans hc, hm v h⟩
  | om =>
    rcases h with h | ⟨s, e, h⟩
    · cases h; exact absurd rfl hx
    · cases e; exact absurd rfl (ho s)
/-- What an array of entries stands for. -/
def Entries (w : World) (O : Nat → Prop) (k v : Ty) (m : List (El k × El v)) (es : Array MapEntry) (clock : Nat) (bs : List Nat) : Prop :=
  es.size = m.length ∧ es.toList.map (·.born) = bs ∧
    (∀ j (h : j < m.length), ∃ en, es[j]? = some en ∧ RepV w O k m[j].1 en.key ∧ RepV w O v m[j].2 en.val) ∧
    (∀ (i j : Nat) x y, es[i]? = some x → es[j]? = some y → x.born = y.born → i = j) ∧ ∀ (i : Nat) x, es[i]? = some x → x.born < clock
theorem Rep.changeMap (hr : Rep C G N used st a w) {l : Loc} {id nid : Id} {k v : Ty} {m m' : List (El k × El v)} (hl : st.get l = .one (.omp id k v m)) {b : Nat} {bs bs' : List Nat} (hΓ : G.Γ id = some (.map (some b), bs)) (hρ : G.ρ b = some (.at_ l))
    {es : Array MapEntry} {clock : Nat} (hc : Changed w w' b (.map es clock)) (he : Entries w G.O k v m' es clock bs') (hid : ¬ used nid) (hu : ∀ x, used x → used' x) (hi : used' nid) :
    Fr G.ρ w (G.name nid (.map (some b)) bs').ρ w' ∧ Rep C (G.name nid (.map (some b)) bs') N used' ([(l, .one (.omp nid k v m'))] ++ st) a w' := by
  have h1 := hr.name hid (.map (some b)) bs' hu hi
  have hs := changed_step h1 (l := l) hρ hc (L := fun l' => inL l' [l] = true) (by simp [inL, locB_self])
  refine ⟨hs.fr, ?_⟩
  refine Rep.step (ws := [(l, .one (.omp nid k v m'))]) h1 hs (fun l' hl' => ?_) (fun _ _ => rfl) h1.size h1.defers (fun _ _ _ h => .inl h) h1.usedΓ h1.usedβ
  obtain rfl : l' = l := by simpa [inL_iff] using hl'
  have hg : S.get [(l', AV.one (Leaf.omp (Ω := Ω) nid k v m'))] l' = .one (.omp nid k v m') := by simp [S.get, locB_self]
  rw [hg]
  have hat := hr.at_ l'
  rw [hl] at hat
  refine RepAt.change (G' := G.name nid (.map (some b)) bs') hat (by simp) (by simp) (fun _ _ h => h) (fun id' b' n j hb => ?_) (fun u hu => ?_)
  · have hne : b' ≠ b := by intro e; subst e; rw [(hr.box id' b' n hb).1] at hρ; cases hρ
    simp [World.cell?, hc.other hne]
  · obtain ⟨l2, bs2, e0, hΓ2, _⟩ := hu
    cases e0
    rw [hΓ] at hΓ2
    cases hΓ2
    obtain ⟨g1, g2, g3, g4, g5⟩ := he
    exact ⟨_, bs', rfl, name_at, b, es, clock, rfl, hρ, hc.at_, g1, g2, fun j hj => let ⟨en, he, h1, h2⟩ := g3 j hj; ⟨en, he, h1.mono hs.free, h2.mono hs.free⟩, g4, g5⟩
theorem MapRep.inv {ρ : Nat → Option Own} {ow : Own} {k v : Ty} {m : List (El k × El v)} {u : Value} {bs : List Nat} (h : MapRep ρ w ow k v m u bs) : ∃ b es clock, u = .map (some b) ∧ ρ b = some ow ∧ w.heap[b]? = some (.map es clock) ∧ Entries w (Ow ρ) k v m es clock bs := by
  obtain ⟨b, es, clock, h1, h2, h3, h4, h5, h6, h7, h8⟩ := h
  exact ⟨b, es, clock, h1, h2, h3, h4, h5, h6, h7, h8⟩
theorem posOf_le {k v : Ty} (x : El k) : ∀ m : List (El k × El v), posOf m x ≤ m.length
  | [] => by simp [posOf]
  | (a, b) :: r => by
    unfold posOf
    split
    · omega
    · have := posOf_le x r; simp only [List.length_cons]; omega
theorem upd_eq {k v : Ty} (x : El k) (y : El v) : ∀ m : List (El k × El v), upd m x y = if posOf m x < m.length then m.set (posOf m x) (x, y) else m ++ [(x, y)]
  | [] => by simp [upd, posOf]
  | (a, b) :: r => by
    unfold upd posOf
    cases h : keyEq k x a with
    | true => simp
    | false =>
      simp only [List.length_cons]
      rw [upd_eq x y r]
      by_cases h2 : posOf r x < r.length
      · rw [if_pos h2, if_pos (by omega)]; rfl
      · rw [if_neg h2, if_neg (by omega)]; rfl
/-- The key that is found is the key. -/
theorem posOf_key {t : Nat} {Kt Vt : Ty} (hk : keyB P t Kt = true) (x : El Kt) : ∀ (m : List (El Kt × El Vt)) (h : posOf m x < m.length), m[posOf m x].1 = x
  | [], h => by simp at h
  | (a, b) :: r, h => by
    cases hq : keyEq Kt x a with
    | true =>
      have e : posOf ((a, b) :: r) x = 0 := by simp [posOf, hq]
      simp only [e, List.getElem_cons_zero]
      rcases keyB_spec hk with ⟨k, rfl, _⟩ | ⟨rfl, _⟩
      · have : decide (x = a) = true := hq
        exact (of_decide_eq_true this).symm
      · have : (x == a) = true := hq
        exact ((bytes_beq x a).1 this).symm
    | false =>
      have e : posOf ((a, b) :: r) x = posOf r x + 1 := by simp [posOf, hq]
      simp only [e, List.getElem_cons_succ]
      exact posOf_key hk x r (by rw [e] at h; simpa using h)
theorem key_rep {t : Nat} {Kt : Ty} (hk : keyB P t Kt = true) {O : Nat → Prop} (x : El Kt) : RepV w O Kt x (keyV Kt x) := by
  rcases keyB_spec hk with ⟨k, rfl, _⟩ | ⟨rfl, _⟩ <;> exact (rfl : _ = _)
theorem key_rep_eq {t : Nat} {Kt : Ty} (hk : keyB P t Kt = true) {O : Nat → Prop} {x : El Kt} {v : Value} (h : RepV w O Kt x v) : v = keyV Kt x := by
  rcases keyB_spec hk with ⟨k, rfl, _⟩ | ⟨rfl, _⟩
  · have e : [v] = [Value.int k x] := h
    exact (List.cons.inj e).1
  · have e : [v] = [Value.string x] := h
    exact (List.cons.inj e).1
theorem sameBits_key {t : Nat} {Kt : Ty} (hk : keyB P t Kt = true) (x : El Kt) : Instr.sameBits 10000 (keyV Kt x) (keyV Kt x) = true := by
  rcases keyB_spec hk with ⟨k, rfl, _⟩ | ⟨rfl, _⟩ <;> simp [Instr.sameBits, keyV, (bytes_beq _ _).2]
/-- A map's entries, written. -/
def putEntry (es : Array MapEntry) (p n : Nat) (key v : Value) (clock : Nat) : Array MapEntry × Nat :=
  if p < n then (es.modify p fun e => { e with key := key, val := v }, clock) else (es.push { key := key, val := v, born := clock }, clock + 1)
theorem run_setObj {b : Nat} {ob ob' : Obj} (h : w.heap[b]? = some ob) (hne : ∀ c e f, ob ≠ .cells c e f) : (setObj b ob').run P w = .ok () { w with heap := w.heap.setIfInBounds b ob' } := by
  cases ob with
  | cells c e f => exact absurd rfl (hne c e f)
  | _ => simp [setObj, Sem.run, h]
theorem run_mapUpdate {t k v : Nat} {Kt Vt : Ty} (hu : P.underlying t = some (.map k v)) (hk : keyB P k Kt = true) {O : Nat → Prop} {m : List (El Kt × El Vt)} {b : Nat} {es : Array MapEntry} {clock : Nat} {bs : List Nat} (hh : w.heap[b]? = some (.map es clock)) (he : Entries w O Kt Vt m es clock bs) (x : El Kt) (y : Value) :
    (Instr.mapUpdate t (.map (some b)) (keyV Kt x) y).run P w = .ok () { w with heap := w.heap.setIfInBounds b (.map (putEntry es (posOf m x) m.length (keyV Kt x) y clock).1 (putEntry es (posOf m x) m.length (keyV Kt x) y clock).2) } := by
  obtain ⟨hs, _, hx, _, _⟩ := he
  have hc := run_checkKey (w := w) hk x false
  have hf := run_findKey (w := w) hk (O := O) (x := x) hs hx
  have hso : ∀ ob', (setObj b ob').run P w = .ok () { w with heap := w.heap.setIfInBounds b ob' } := fun ob' => run_setObj hh (by simp)
  have h1 := hf.1
  split at h1
  · rename_i hn
    have hp := hf.2.1 hn
    have e : putEntry es (posOf m x) m.length (keyV Kt x) y clock = (es.push { key := keyV Kt x, val := y, born := clock }, clock + 1) := by unfold putEntry; rw [if_neg (by omega)]
    rw [e]
    simp [Instr.mapUpdate, run_underlying hu, run_getObj hh, hc, h1, hso]
  · rename_i y0 hn
    obtain ⟨r, h1, _⟩ := h1
    have hp : posOf m x < m.length := by
      have := posOf_le (v := Vt) x m
      have h2 : ¬ posOf m x = m.length := fun e => by rw [hf.2.2 e] at hn; cases hn
      omega
    obtain ⟨en, hen, hkey, _⟩ := hx _ hp
    have e1 := key_rep_eq hk hkey
    rw [posOf_key hk x m hp] at e1
    have e : putEntry es (posOf m x) m.length (keyV Kt x) y clock = (es.modify (posOf m x) fun e => { e with key := keyV Kt x, val := y }, clock) := by unfold putEntry; rw [if_pos hp]
    rw [e]
    have hks : (Instr.keyThatStays (((es[posOf m x]?).map (·.key)).getD (keyV Kt x)) (keyV Kt x)).run P w = .ok (keyV Kt x) w := by
      rw [hen]
      simp [Instr.keyThatStays, e1, sameBits_key hk]
    simp [Instr.mapUpdate, run_underlying hu, run_getObj hh, hc, h1, hks, hso]
theorem Entries.upd {t : Nat} {Kt Vt : Ty} (hk : keyB P t Kt = true) {O : Nat → Prop} {m : List (El Kt × El Vt)} {es : Array MapEntry} {clock : Nat} {bs : List Nat} (he : Entries w O Kt Vt m es clock bs) {x : El Kt} {y : El Vt} {v : Value} (hv : RepV w O Vt y v) :
    Entries w O Kt Vt (upd m x y) (putEntry es (posOf m x) m.length (keyV Kt x) v clock).1 (putEntry es (posOf m x) m.length (keyV Kt x) v clock).2 (if posOf m x < m.length then bs else bs ++ [clock]) := by
  obtain ⟨hs, hb, hx, hi, hlt⟩ := he
  rw [upd_eq]
  unfold putEntry
  by_cases hp : posOf m x < m.length
  · rw [if_pos hp, if_pos hp, if_pos hp]
    have hget : ∀ j, (es.modify (posOf m x) fun e => { e with key := keyV Kt x, val := v })[j]? = (es[j]?).map fun e => if posOf m x = j then { e with key := keyV Kt x, val := v } else e := by
      intro j
      rw [Array.getElem?_modify]
      split
      · rfl
      · cases es[j]? <;> rfl
    have hborn : ∀ (j : Nat) e, (es.modify (posOf m x) fun e => { e with key := keyV Kt x, val := v })[j]? = some e → ∃ e', es[j]? = some e' ∧ e'.born = e.born := by
      intro j e h
      rw [hget] at h
      cases hj : es[j]? with
      | none => rw [hj] at h; cases h
      | some e' =>
        rw [hj] at h
        simp only [Option.map_some, Option.some.injEq] at h
        refine ⟨e', rfl, ?_⟩
        rw [← h]; split <;> rfl
    refine ⟨by simp [hs], ?_, fun j hj => ?_, fun i j e1 e2 h1 h2 h3 => ?_, fun i e h => ?_⟩
    · rw [← hb]
      apply List.ext_getElem?
      intro j
      simp only [List.getElem?_map, Array.getElem?_toList, hget]
      cases es[j]? with
      | none => rfl
      | some e => simp only [Option.map_some]; split <;> rfl
    · have hj' : j < m.length := by simpa using hj
      obtain ⟨en, hen, h1, h2⟩ := hx j hj'
      by_cases e : posOf m x = j
      · subst e
        refine ⟨_, by rw [hget, hen]; simp; rfl, ?_, ?_⟩
        · simp only [List.getElem_set_self]; exact key_rep hk x
        · simp only [List.getElem_set_self]; exact hv
      · refine ⟨en, by rw [hget, hen]; simp [e], ?_, ?_⟩
        · rw [List.getElem_set_ne e]; exact h1
        · rw [List.getElem_set_ne e]; exact h2
    · obtain ⟨f1, g1, g2⟩ := hborn i e1 h1
      obtain ⟨f2, g3, g4⟩ := hborn j e2 h2
      exact hi i j f1 f2 g1 g3 (by rw [g2, g4, h3])
    · obtain ⟨f1, g1, g2⟩ := hborn i e h
      rw [← g2]; exact hlt i f1 g1
  · rw [if_neg hp, if_neg hp, if_neg hp]
    have hget : ∀ j, (es.push { key := keyV Kt x, val := v, born := clock })[j]? = if j = es.size then some { key := keyV Kt x, val := v, born := clock } else es[j]? := fun j => by rw [Array.getElem?_push]
    refine ⟨by simp [hs], by simp [hb], fun j hj => ?_, fun i j e1 e2 h1 h2 h3 => ?_, fun i e h => ?_⟩
    · by_cases e : j < m.length
      · obtain ⟨en, hen, h1, h2⟩ := hx j e
        refine ⟨en, by rw [hget, if_neg (by omega)]; exact hen, ?_, ?_⟩
        · rw [List.getElem_append_left e]; exact h1
        · rw [List.getElem_append_left e]; exact h2
      · have e' : j = m.length := by simp at hj; omega
        subst e'
        refine ⟨_, by rw [hget, if_pos hs.symm], ?_, ?_⟩
        · simp only [List.getElem_concat_length]; exact key_rep hk x
        · simp only [List.getElem_concat_length]; exact hv
    · rw [hget] at h1 h2
      by_cases a1 : i = es.size <;> by_cases a2 : j = es.size
      · omega
      · rw [if_pos a1] at h1; rw [if_neg a2] at h2
        cases h1
        have := hlt j e2 h2
        simp at h3; omega
      · rw [if_neg a1] at h1; rw [if_pos a2] at h2
        cases h2
        have := hlt i e1 h1
        simp at h3; omega
      · rw [if_neg a1] at h1; rw [if_neg a2] at h2
        exact hi i j e1 e2 h1 h2 h3
    · rw [hget] at h
      split at h
      · cases h; simp
      · have := hlt i e h; omega
theorem aggV_rep {u : AV Ω} {x : Value} (hu : RepAV C G w none u x) (hs : sizedV u = true) : aggB x = aggV u := by
  cases u with
  | one l =>
    have h' : RepL C G w none l x := hu
    have := noAgg_leaf h' (live_ne hs)
    cases x <;> first | rfl | cases this
  | agg ls => obtain ⟨vs, rfl, _⟩ := hu; rfl
  | tup ps => cases hs
theorem mapT_runs {ti : TI} {Kt Vt : Ty} {p : Prg Ω} (h : (mapT ti Kt Vt p).Runs st acc rs ws) : ∃ k v, ti.kind = .mp k v ∧ ti.ty = .mp Kt Vt ∧ p.Runs st acc rs ws := by
  unfold mapT at h
  split at h
  · rename_i k v K' V' hk hty
    split at h
    · rename_i he
      rw [Bool.and_eq_true] at he
      obtain rfl := Ty.eq_of_beq he.1
      obtain rfl := Ty.eq_of_beq he.2
      exact ⟨k, v, hk, hty, h⟩
    · exact h.elim
  · exact h.elim
/-- A value's operand, for an element. -/
theorem elem_op {t : Nat} {Vt : Ty} (hv : zeroB P t Vt = true) {u : AV Ω} {x : Value} (hu : RepAV C G w none u x) (hf : fitsV u (width Vt) = true) {y : El Vt} (hp : packAll Vt (leavesOf u) = some y) (hagg : aggB x = rowB Vt) : RepV w G.O Vt y x := by
  obtain ⟨hs, _⟩ := fitsV_iff hf
  have h := packAll_rep (C := C) hp (leaves_rep hu hs)
  unfold RepV Val
  cases hr : rowB Vt with
  | true =>
    rw [hr] at hagg
    cases x <;> simp [aggB] at hagg
    exact ⟨_, rfl, h⟩
  | false =>
    rw [hr] at hagg
    have : x.cells.toList = [x] := by cases x <;> first | rfl | simp [aggB] at hagg
    rwa [this] at h
theorem ok_mapUpdateC (hT : TabOk P T) {t : Nat} {m k x : Operand} (hdst : dst = none) {op : Op} (hop : ∀ ρ, execOp ρ ⟨dst, op, ty, pos, after, guard⟩ = (do Instr.mapUpdate t (ρ m) (ρ k) (ρ x); pure .skip)) : OpOk P C N rc i ⟨dst, op, ty, pos, after, guard⟩
    (Prg.opt (T.get t) fun ti => opG m fun vm => opG k fun vk => opG x fun vx => freeze x vx fun u => mapG m vm fun l id K V mm => mapT ti K V <|
      Prg.opt (packAll K (keyL vk)) fun kk => (match and (fitsV u (width V)) (aggV u == rowB V) with
      | true => Prg.opt (packAll V (leavesOf u)) fun vv => .done [(l, .one (.omp (rc, i, 0) K V (upd mm kk vv)))]
      | false => .fail)) := by
  intro G used st a w acc rs ws hr hf h K Q hK
  obtain ⟨ti, hti, h⟩ := runs_opt h
  obtain ⟨vm, acc1, h, hvm, -⟩ := runs_opG hr h
  obtain ⟨vk, acc2, h, hvk, -⟩ := runs_opG hr h
  obtain ⟨vx, acc3, h, hvx, hsx⟩ := runs_opG hr h
  obtain ⟨u, ws', ws2, acc4, G1, rfl, h, hm, hΓe, hβ, hr1, hu, hn⟩ := runs_freeze hr hvx hsx h
  obtain ⟨l, id, Kt, Vt, mm, acc5, bs, h, hl, hΓ, hmr⟩ := mapG_runs hr1 (x := a.eval m) (fun l id ho => by
    obtain ⟨bs, hb⟩ := ownLoc_rep hvm ho
    exact ⟨bs, hm.Γ _ _ hb⟩) h
  obtain ⟨k0, v0, hk, hty, h⟩ := mapT_runs h
  obtain ⟨hul, hkv⟩ := hT.mp hti hk
  obtain ⟨hkb, hvb⟩ := hkv _ _ hty
  obtain ⟨kk, hkk, h⟩ := runs_opt h
  have ek := key_op hkb hvk hkk
  cases hfit : and (fitsV u (width Vt)) (aggV u == rowB Vt) with
  | false => simp only [hfit] at h; exact h.elim
  | true =>
    simp only [hfit] at h
    obtain ⟨vv, hvv, h⟩ := runs_opt h
    obtain ⟨rfl, -⟩ := h
    rw [Bool.and_eq_true, beq_iff_eq] at hfit
    have hvr := elem_op hvb hu hfit.1 hvv (by rw [← hfit.2]; exact aggV_rep hu (fitsV_iff hfit.1).1)
    obtain ⟨b, es, clock, em, hρ, hh, he⟩ := hmr.inv
    have hrun := run_mapUpdate (w := w) hul hkb hh he kk (a.eval x)
    have hlt := heap_lt hh
    rw [em] at hΓ
    obtain ⟨hfr, hrep⟩ := hr1.changeMap hl hΓ hρ (w' := { w with heap := w.heap.setIfInBounds b (.map (putEntry es (posOf mm kk) mm.length (keyV Kt kk) (a.eval x) clock).1 (putEntry es (posOf mm kk) mm.length (keyV Kt kk) (a.eval x) clock).2) })
      ⟨rfl, hlt, rfl, rfl, rfl⟩ (he.upd hkb hvr) (nid := (rc, i, 0)) (hf 0) (used' := usedAt used rc i) (fun _ h => .inl h) (.inr ⟨0, rfl⟩)
    subst hdst
    refine wp_skip (w' := { w with heap := w.heap.setIfInBounds b (.map (putEntry es (posOf mm kk) mm.length (keyV Kt kk) (a.eval x) clock).1 (putEntry es (posOf mm kk) mm.length (keyV Kt kk) (a.eval x) clock).2) }) ?_ ?_
    · rw [hop, em, ek]
      simp [hrun]
    · exact hK_step hm.fr hK _ _ _ hfr hrep
theorem Rep.newOwned (hr : Rep C G N used st a w) {ob : Obj} (hp : Pushed w w' ob) {d : Nat} (hd : d < N) {nid : Id} (hid : ¬ used nid) (hu : ∀ x, used x → used' x) (hi : used' nid) {u : AV Ω} {v : Value} {bs : List Nat}
    (hrep : RepAV C ((G.new w.heap.size (some (.at_ (.tmp d)))).name nid v bs) w' (some (.tmp d)) u v) :
    Fr G.ρ w ((G.new w.heap.size (some (.at_ (.tmp d)))).name nid v bs).ρ w' ∧ Rep C ((G.new w.heap.size (some (.at_ (.tmp d)))).name nid v bs) N used' ([(.tmp d, u)] ++ st) (a.put (some d) v) w' := by
  have h1 := hr.pushed hp (some (.at_ (.tmp d)))
  have h2 := h1.name hid v bs hu hi
  exact ⟨(new_step hr hp (some (.at_ (.tmp d))) (fun _ => False)).fr, h2.put hd hrep⟩
theorem ok_makeMap (hT : TabOk P T) {t : Nat} (hd : ∀ d, dst = some d → d < N) : OpOk P C N rc i ⟨dst, .makeMap t none, ty, pos, after, guard⟩
    (Prg.opt (T.get t) fun ti => (match (generalizing := false) ti.kind, ti.ty, dst with
      | .mp _ _, .mp k v, some d => .done [(.tmp d, .one (.omp (rc, i, 0) k v []))]
      | _, _, _ => .fail)) := by
  intro G used st a w acc rs ws hr hf h K Q hK
  obtain ⟨ti, hti, h⟩ := runs_opt h
  rcases dst with _ | d
  · exfalso
    cases hk : ti.kind <;> cases hty : ti.ty <;> simp only [hk, hty] at h <;> exact h.elim
  cases hk : ti.kind with
  | mp k0 v0 =>
    cases hty : ti.ty with
    | mp Kt Vt =>
      simp only [hk, hty] at h
      obtain ⟨rfl, -⟩ := h
      have hp := Pushed.alloc w (.map #[] 0)
      obtain ⟨hfr, hrep⟩ := hr.newOwned hp (hd d rfl) (hf 0) (used' := usedAt used rc i) (fun _ h => .inl h) (.inr ⟨0, rfl⟩) (u := .one (.omp (rc, i, 0) Kt Vt [])) (v := .map (some w.heap.size)) (bs := [])
        ⟨_, [], rfl, name_at, w.heap.size, #[], 0, rfl, new_at, hp.new, rfl, rfl, fun j hj => by simp at hj, fun i j x y h => by simp at h, fun i x h => by simp at h⟩
      exact wp_value (v := .map (some w.heap.size)) (w' := w.alloc (.map #[] 0)) (by simp [execOp, Instr.makeMap]) (hK _ _ _ hfr hrep)
    | _ => simp only [hk, hty] at h; exact h.elim
  | _ => simp only [hk] at h; exact h.elim
end
end Go.Proofs.Ytbgefphoochgcaa.FE
