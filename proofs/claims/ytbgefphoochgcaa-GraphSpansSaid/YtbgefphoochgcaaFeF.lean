/- FE, part 6: what a small program's run says; operands: looked at, frozen, taken. -/
import Derived.Test.YtbgefphoochgcaaFeE
namespace Go.Proofs.Ytbgefphoochgcaa.FE
open Go
set_option linter.unusedVariables false
set_option linter.unusedSimpArgs false
section
variable {Ω : Type}

def Prg.Runs : S Ω → Prg Ω → List Loc → List Loc → List (Loc × AV Ω) → Prop
  | st, .get l f, acc, rs, ws => Prg.Runs st (f (st.get l)) (l :: acc) rs ws
  | st, .ite b t e, acc, rs, ws => match b with | true => Prg.Runs st t acc rs ws | false => Prg.Runs st e acc rs ws
  | st, .bind m f, acc, rs, ws => ∃ y, m = some y ∧ Prg.Runs st (f y) acc rs ws
  | st, .upd ws1 p, acc, rs, ws => ∃ ws2, ws = ws2 ++ ws1 ∧ Prg.Runs (ws1 ++ st) p acc rs ws2
  | st, .done ws', acc, rs, ws => ws = ws' ∧ rs = acc
  | _, .fail, _, _, _ => False
theorem Prg.runs_of_run {R : Type} {r : R} : ∀ {p : Prg Ω} {st : S Ω} {acc : List Loc} {k : List Loc → List (Loc × AV Ω) → Option R}, p.run st acc k = some r → ∃ rs ws, p.Runs st acc rs ws ∧ k rs ws = some r := by
  intro p
  induction p with
  | get l f ih => intro st acc k h; exact ih _ h
  | ite b t e ht he => intro st acc k h; cases b <;> first | exact ht h | exact he h
  | bind m f ih =>
    intro st acc k h
    simp only [Prg.run, Option.bind_eq_some_iff] at h
    obtain ⟨y, hy, h⟩ := h
    obtain ⟨rs, ws, h1, h2⟩ := ih y h
    exact ⟨rs, ws, ⟨y, hy, h1⟩, h2⟩
  | upd ws1 p ih =>
    intro st acc k h
    obtain ⟨rs, ws, h1, h2⟩ := ih (st := ws1 ++ st) h
    exact ⟨rs, ws ++ ws1, ⟨ws, rfl, h1⟩, h2⟩
  | done ws => intro st acc k h; exact ⟨acc, ws, ⟨rfl, rfl⟩, h⟩
  | fail => intro st acc k h; cases h
theorem Prg.Runs.acc : ∀ {p : Prg Ω} {st : S Ω} {acc rs : List Loc} {ws : List (Loc × AV Ω)}, p.Runs st acc rs ws → ∀ l ∈ acc, l ∈ rs := by
  intro p
  induction p with
  | get l f ih => intro st acc rs ws h l' hl; exact ih _ h l' (List.mem_cons_of_mem _ hl)
  | ite b t e ht he => intro st acc rs ws h; cases b <;> first | exact ht h | exact he h
  | bind m f ih => rintro st acc rs ws ⟨y, _, h⟩; exact ih y h
  | upd ws1 p ih => rintro st acc rs ws ⟨ws2, _, h⟩; exact ih h
  | done ws => rintro st acc rs ws' ⟨_, rfl⟩ l hl; exact hl
  | fail => intro st acc rs ws h; exact h.elim
/-- What a program does hangs on what it reads alone. -/
theorem Prg.Runs.congr : ∀ {p : Prg Ω} {st st' : S Ω} {acc rs : List Loc} {ws : List (Loc × AV Ω)}, p.Runs st acc rs ws → (∀ l ∈ rs, st'.get l = st.get l) → p.Runs st' acc rs ws := by
  intro p
  induction p with
  | get l f ih =>
    intro st st' acc rs ws h hg
    show Prg.Runs st' (f (st'.get l)) (l :: acc) rs ws
    have h' : Prg.Runs st (f (st.get l)) (l :: acc) rs ws := h
    rw [hg l (Prg.Runs.acc h' l List.mem_cons_self)]
    exact ih _ h hg
  | ite b t e ht he => intro st st' acc rs ws h hg; cases b <;> first | exact ht h hg | exact he h hg
  | bind m f ih => rintro st st' acc rs ws ⟨y, hy, h⟩ hg; exact ⟨y, hy, ih y h hg⟩
  | upd ws1 p ih =>
    rintro st st' acc rs ws ⟨ws2, e, h⟩ hg
    exact ⟨ws2, e, ih h fun l hl => by rw [get_append, get_append, hg l hl]⟩
  | done ws => intro st st' acc rs ws' h _; exact h
  | fail => intro st st' acc rs ws h; exact h.elim
theorem runs_opt {β : Type _} {st : S Ω} {m : Option β} {f : β → Prg Ω} {acc rs : List Loc} {ws : List (Loc × AV Ω)} (h : (Prg.opt m f).Runs st acc rs ws) : ∃ y, m = some y ∧ (f y).Runs st acc rs ws := by
  cases m with
  | none => exact h.elim
  | some y => exact ⟨y, rfl, h⟩
theorem runs_putP {st : S Ω} {o : Oper} {u : AV Ω} {acc rs : List Loc} {ws : List (Loc × AV Ω)} (h : (putP o u).Runs st acc rs ws) :
    (∃ d, o.dst = some d ∧ ws = [(.tmp d, u)]) ∨ (o.dst = none ∧ ws = []) := by
  unfold putP at h
  split at h
  · rename_i d hd; exact .inl ⟨d, hd, h.1⟩
  · rename_i hd; exact .inr ⟨hd, h.1⟩

variable {C : CloRep Ω} {G : Ghost} {w : World} {N : Nat} {used : Id → Prop} {st : S Ω} {a : Act}
def opLoc : Operand → Option Loc | .tmp t => some (.tmp t) | _ => none
theorem constAV_rep (v : Value) : RepAV C G w none (constAV (Ω := Ω) v) v := by
  unfold constAV
  split <;> first | exact rfl | trivial
theorem runs_opG (hr : Rep C G N used st a w) {o : Operand} {f : AV Ω → Prg Ω} {acc rs : List Loc} {ws : List (Loc × AV Ω)} (h : (opG o f).Runs st acc rs ws) :
    ∃ v acc', (f v).Runs st acc' rs ws ∧ RepAV C G w (opLoc o) v (a.eval o) ∧ (∀ t, o = .tmp t → v = st.get (.tmp t)) := by
  cases o with
  | tmp t => exact ⟨_, _, h, hr.at_ (.tmp t), fun t' e => by cases e; rfl⟩
  | const v => exact ⟨_, _, h, constAV_rep v, fun t e => by cases e⟩
  | global g => exact h.elim
  | func n => exact ⟨_, _, h, ⟨[], rfl, fun i b c hb => by simp at hb, rfl⟩, fun t e => by cases e⟩
/-- What is owned by nothing here may stand anywhere. -/
def noOwn : AV Ω → Prop
  | .one (.arr _ _ _) | .one (.omp _ _ _ _) => False
  | _ => True
theorem RepAV.any {at_ at' : Option Loc} {u : AV Ω} {v : Value} (hn : noOwn u) (h : RepAV C G w at_ u v) : RepAV C G w at' u v := by
  cases u with
  | one l => cases l <;> first | exact hn.elim | exact h
  | agg ls => exact h
  | tup ps => exact h
theorem Step.refl' (hr : Rep C G N used st a w) (L : Loc → Prop) : Step G w G w L := Step.refl hr.box' hr.lt
theorem Rep.mono (hr : Rep C G N used st a w) {used' : Id → Prop} (h : ∀ id, used id → used' id) : Rep C G N used' st a w :=
  ⟨hr.at_, hr.size, hr.defers, hr.box, fun id hi => h id (hr.usedΓ id hi), fun id hi => h id (hr.usedβ id hi), hr.lt⟩
theorem Rep.congr (hr : Rep C G N used st a w) {st' : S Ω} (h : ∀ l, st'.get l = st.get l) : Rep C G N used st' a w :=
  ⟨fun l => by rw [h l]; exact hr.at_ l, hr.size, hr.defers, hr.box, hr.usedΓ, hr.usedβ, hr.lt⟩

/-! ### what stands at a place -/
theorem RepAt.arr {l : Loc} {id : Id} {e : Ty} {xs : List (El e)} (h : RepAt C G a w l (.one (.arr id e xs))) : ∃ v, (∃ bs, G.Γ id = some (v, bs)) ∧ ArrRep G.ρ w (.at_ l) e xs v := by
  cases l with
  | tmp t => obtain ⟨l', e1, e2, h⟩ := h; cases e1; exact ⟨_, e2, h⟩
  | comp t i => 
    rcases h with h | ⟨v, l', e1, e2, h⟩
    · cases h
    · cases e1; exact ⟨_, e2, h⟩
  | box id' j => 
    rcases h with h | ⟨b, n, v, _, _, l', e1, e2, h⟩
    · cases h
    · cases e1; exact ⟨_, e2, h⟩
  | om => rcases h with h | ⟨s, h, _⟩ <;> cases h
theorem RepAt.omp {l : Loc} {id : Id} {k v : Ty} {m : List (El k × El v)} (h : RepAt C G a w l (.one (.omp id k v m))) : ∃ u bs, G.Γ id = some (u, bs) ∧ MapRep G.ρ w (.at_ l) k v m u bs := by
  cases l with
  | tmp t => obtain ⟨l', bs, e1, e2, h⟩ := h; cases e1; exact ⟨_, bs, e2, h⟩
  | comp t i => 
    rcases h with h | ⟨v, l', bs, e1, e2, h⟩
    · cases h
    · cases e1; exact ⟨_, bs, e2, h⟩
  | box id' j => 
    rcases h with h | ⟨b, n, v, _, _, l', bs, e1, e2, h⟩
    · cases h
    · cases e1; exact ⟨_, bs, e2, h⟩
  | om => rcases h with h | ⟨s, h, _⟩ <;> cases h

/-! ### an owned block becomes free, or another's -/
/-- The blocks that a place owns go to another owner, or to none. -/
def Ghost.give (G : Ghost) (l : Loc) (o : Option Loc) : Ghost := { G with ρ := fun b => match G.ρ b with | some (.at_ l') => (match locB l' l with | true => o.map Own.at_ | false => some (.at_ l')) | r => r }
theorem give_at {l : Loc} {o : Option Loc} {b : Nat} (h : G.ρ b = some (.at_ l)) : (G.give l o).ρ b = o.map Own.at_ := by simp [Ghost.give, h, locB_self]
theorem give_ne {l l' : Loc} {o : Option Loc} {b : Nat} (hne : l' ≠ l) (h : G.ρ b = some (.at_ l')) : (G.give l o).ρ b = some (.at_ l') := by simp [Ghost.give, h, locB_ne hne]
theorem give_other {l : Loc} {o : Option Loc} {b : Nat} {r : Option Own} (hr : ∀ l', r ≠ some (.at_ l')) (h : G.ρ b = r) : (G.give l o).ρ b = r := by
  subst h
  unfold Ghost.give
  cases e : G.ρ b with
  | none => simp [e]
  | some x => cases x with
    | at_ l' => exact absurd e (hr l')
    | _ => simp [e]
theorem give_O {l : Loc} {o : Option Loc} {b : Nat} (h : (G.give l o).O b) : G.O b := by
  intro e
  exact h (give_other (by intro l' h; cases h) e)
theorem give_step (hr : Rep C G N used st a w) {l : Loc} {o : Option Loc} {L : Loc → Prop} (hl : L l) : Step G w (G.give l o) w L where
  Γ _ _ h := h
  β _ _ h := h
  os := rfl
  tape := rfl
  output := rfl
  size := Nat.le_refl _
  free b _ h := ⟨rfl, fun h' => h (fun e => h' (give_other (by intro l' h; cases h) e))⟩
  own b l' h hn := ⟨rfl, give_ne (fun e => hn (e ▸ hl)) h⟩
  ext b h := ⟨rfl, give_other (by intro l' h; cases h) h⟩
  om b h _ := ⟨rfl, give_other (by intro l' h; cases h) h⟩
  bx b n id h := ⟨give_other (by intro l' h; cases h) (hr.box id b n h).1, (hr.box id b n h).2, fun _ _ => rfl⟩
  lt b h := hr.lt b (give_O h)
  omr b _ h hn := by
    cases hb : G.ρ b with
    | none => rw [give_other (by intro l' h; cases h) hb] at h; cases h
    | some o' =>
      cases o' with
      | at_ l' =>
        exfalso
        by_cases e : l' = l
        · subst e
          rw [give_at hb] at h
          cases o <;> cases h
        · rw [give_ne e hb] at h; cases h
      | om => exact rfl
      | _ => rw [give_other (by intro l' h; cases h) hb] at h; cases h
theorem give_free (hr : Rep C G N used st a w) {l : Loc} {o : Option Loc} : Free w G.O w (G.give l o).O := (give_step hr (L := fun _ => True) trivial).free
theorem RepAt.map {G' : Ghost} {l : Loc} {x y : Leaf Ω} (h : RepAt C G a w l (.one x)) (hx : x ≠ .dead) (ho : ∀ s, x ≠ .opq s) (hβ : ∀ id b, G.β id = some b → G'.β id = some b)
    (hm : ∀ v, RepL C G w (some l) x v → RepL C G' w (some l) y v) : RepAt C G' a w l (.one y) := by
  cases l with
  | tmp t => exact hm _ h
  | comp t i =>
    rcases h with h | ⟨v, h⟩
    · cases h; exact absurd rfl hx
    · exact .inr ⟨v, hm v h⟩
  | box id j =>
    rcases h with h | ⟨b, n, v, hb, hc, h⟩
    · cases h; exact absurd rfl hx
    · exact .inr ⟨b, n, v, hβ _ _ hb, hc, hm v h⟩
  | om =>
    rcases h with h | ⟨s, e, h⟩
    · cases h; exact absurd rfl hx
    · cases e; exact absurd rfl (ho s)
theorem RepAt.dead {l : Loc} : RepAt C G a w l (.one .dead) := by
  cases l with
  | tmp t => trivial
  | _ => exact .inl rfl
theorem ArrRep.data {l : Loc} {e : Ty} {xs : List (El e)} {v : Value} (h : ArrRep G.ρ w (.at_ l) e xs v) {O' : Nat → Prop} (hf : ∀ b, ¬ G.O b → ¬ O' b) (hb : ∀ b, G.ρ b = some (.at_ l) → ¬ O' b) : RepC w O' (.sl e) xs [v] := by
  have hfree : Free w G.O w O' := fun b _ ho => ⟨rfl, hf b ho⟩
  rcases h with ⟨rfl, rfl⟩ | ⟨b, off, cap, c, el, rfl, hc, hρ, hh, hsz, hx⟩
  · exact ⟨none, 0, rfl, Nat.le_refl _, fun h => absurd rfl h⟩
  · refine ⟨_, cap, rfl, hc, fun _ => ⟨b, off, rfl, hb b hρ, fun j hj => ?_⟩⟩
    obtain ⟨vs, hr, hat⟩ := hx j hj
    exact ⟨vs, hr.mono hfree, c, el, _, hh, hat⟩
theorem MapRep.data {l : Loc} {k v : Ty} {m : List (El k × El v)} {u : Value} {bs : List Nat} (h : MapRep G.ρ w (.at_ l) k v m u bs) {O' : Nat → Prop} (hf : ∀ b, ¬ G.O b → ¬ O' b) (hb : ∀ b, G.ρ b = some (.at_ l) → ¬ O' b) : RepC w O' (.mp k v) m [u] := by
  have hfree : Free w G.O w O' := fun b _ ho => ⟨rfl, hf b ho⟩
  obtain ⟨b, es, clock, rfl, hρ, hh, hsz, _, hx, _⟩ := h
  exact ⟨some b, rfl, .inr ⟨b, es, clock, rfl, hb b hρ, hh, hsz, fun j hj => let ⟨en, he, h1, h2⟩ := hx j hj; ⟨en, he, h1.mono hfree, h2.mono hfree⟩⟩⟩
/-- A place's owned value becomes data: a step of the ghosts alone. -/
theorem Rep.freezeArr (hr : Rep C G N used st a w) {l : Loc} {id : Id} {e : Ty} {xs : List (El e)} (hl : st.get l = .one (.arr id e xs)) :
    Rep C (G.give l none) N used ([(l, .one (.dat (.sl e) xs))] ++ st) a w ∧ ∀ v, (∃ bs, G.Γ id = some (v, bs)) → RepC w (G.give l none).O (.sl e) xs [v] := by
  have hat := hr.at_ l
  rw [hl] at hat
  have hd : ∀ {v}, ArrRep G.ρ w (.at_ l) e xs v → RepC w (G.give l none).O (.sl e) xs [v] := fun h => h.data (fun b hb h' => hb (give_O h')) (fun b hb h' => h' (give_at hb))
  refine ⟨?_, fun v hv => ?_⟩
  · refine Rep.step hr (give_step hr (by simp [inL, locB_self])) (fun l' hl' => ?_) (fun _ _ => rfl) hr.size hr.defers (fun _ _ _ h => .inl h) hr.usedΓ hr.usedβ
    obtain rfl : l' = l := by simpa [inL_iff] using hl'
    have : S.get [(l', AV.one (Leaf.dat (Ω := Ω) (.sl e) xs))] l' = .one (.dat (.sl e) xs) := by simp [S.get, locB_self]
    rw [this]
    refine hat.map (by simp) (by simp) (fun _ _ h => h) fun v hv => ?_
    obtain ⟨l2, e1, _, h⟩ := hv
    cases e1
    exact hd h
  · obtain ⟨v', ⟨bs, h1⟩, h2⟩ := hat.arr
    obtain ⟨bs', h3⟩ := hv
    rw [h1] at h3
    cases h3
    exact hd h2
theorem Rep.freezeMap (hr : Rep C G N used st a w) {l : Loc} {id : Id} {k v : Ty} {m : List (El k × El v)} (hl : st.get l = .one (.omp id k v m)) :
    Rep C (G.give l none) N used ([(l, .one (.dat (.mp k v) m))] ++ st) a w ∧ ∀ u, (∃ bs, G.Γ id = some (u, bs)) → RepC w (G.give l none).O (.mp k v) m [u] := by
  have hat := hr.at_ l
  rw [hl] at hat
  have hd : ∀ {u bs}, MapRep G.ρ w (.at_ l) k v m u bs → RepC w (G.give l none).O (.mp k v) m [u] := fun h => h.data (fun b hb h' => hb (give_O h')) (fun b hb h' => h' (give_at hb))
  refine ⟨?_, fun u hu => ?_⟩
  · refine Rep.step hr (give_step hr (by simp [inL, locB_self])) (fun l' hl' => ?_) (fun _ _ => rfl) hr.size hr.defers (fun _ _ _ h => .inl h) hr.usedΓ hr.usedβ
    obtain rfl : l' = l := by simpa [inL_iff] using hl'
    have : S.get [(l', AV.one (Leaf.dat (Ω := Ω) (.mp k v) m))] l' = .one (.dat (.mp k v) m) := by simp [S.get, locB_self]
    rw [this]
    refine hat.map (by simp) (by simp) (fun _ _ h => h) fun u hu => ?_
    obtain ⟨l2, bs, e1, _, h⟩ := hu
    cases e1
    exact hd h
  · obtain ⟨u', bs, h1, h2⟩ := hat.omp
    obtain ⟨bs', h3⟩ := hu
    rw [h1] at h3
    cases h3
    exact hd h2
/-- A place's owned value goes elsewhere: nothing is left there. -/
theorem Rep.takeAt (hr : Rep C G N used st a w) (l : Loc) (o : Option Loc) : Rep C (G.give l o) N used ([(l, .one .dead)] ++ st) a w := by
  refine Rep.step hr (give_step hr (by simp [inL, locB_self])) (fun l' hl' => ?_) (fun _ _ => rfl) hr.size hr.defers (fun _ _ _ h => .inl h) hr.usedΓ hr.usedβ
  obtain rfl : l' = l := by simpa [inL_iff] using hl'
  have : S.get [(l', AV.one (Leaf.dead (Ω := Ω)))] l' = .one .dead := by simp [S.get, locB_self]
  rw [this]
  exact RepAt.dead
theorem ArrRep.give (hr : Rep C G N used st a w) {l l' : Loc} {e : Ty} {xs : List (El e)} {v : Value} (h : ArrRep G.ρ w (.at_ l) e xs v) : ArrRep (G.give l (some l')).ρ w (.at_ l') e xs v := by
  rcases h with h | ⟨b, off, cap, c, el, hv, hc, hb, hh, hsz, hx⟩
  · exact .inl h
  · exact .inr ⟨b, off, cap, c, el, hv, hc, give_at hb, hh, hsz, fun j hj => let ⟨vs, hv, hat⟩ := hx j hj; ⟨vs, hv.mono (give_free hr), hat⟩⟩
theorem MapRep.give (hr : Rep C G N used st a w) {l l' : Loc} {k v : Ty} {m : List (El k × El v)} {u : Value} {bs : List Nat} (h : MapRep G.ρ w (.at_ l) k v m u bs) : MapRep (G.give l (some l')).ρ w (.at_ l') k v m u bs := by
  obtain ⟨b, es, clock, hu, hb, hh, hsz, hbs, hx, hr'⟩ := h
  exact ⟨b, es, clock, hu, give_at hb, hh, hsz, hbs, fun j hj => let ⟨en, he, h1, h2⟩ := hx j hj; ⟨en, he, h1.mono (give_free hr), h2.mono (give_free hr)⟩, hr'⟩
end
end Go.Proofs.Ytbgefphoochgcaa.FE
