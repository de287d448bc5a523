/- FE, part 36: where ways meet, and at a loop's head. -/
import Derived.Test.YtbgefphoochgcaaFeShape
namespace Go.Proofs.Ytbgefphoochgcaa.FE
open Go
set_option linter.unusedVariables false
set_option linter.unusedSimpArgs false
section
variable {Ω : Type} {C : CloRep Ω} {N : Nat} {G G0 : Ghost} {used : Id → Prop} {st st0 st' : S Ω} {a a0 : Act} {w w0 : World} {rc : Nat}

/-- The ids before this stamp. -/
def usedB (rc : Nat) : Id → Prop := fun id => id.1 < rc
theorem sinceB_spec {om : Bool} {ls : List (Loc × LS)} {base : S Ω} : ∀ {ws : List (Loc × AV Ω)}, sinceB om ls base ws = true → ∀ l, inL l (ws.map (·.1)) = true → inL l (ls.map (·.1)) = true ∨ S.get base l = .one .dead ∨ (om = true ∧ l = .om)
  | [], _, l, h => by cases h
  | p :: r, h, l, hl => by
    simp only [sinceB] at h
    split at h
    · rename_i hb
      rw [List.map_cons, inL_iff, List.mem_cons] at hl
      rcases hl with rfl | hl
      · rw [Bool.or_eq_true, Bool.or_eq_true, Bool.and_eq_true] at hb
        rcases hb with (hb | hb) | hb
        · exact .inl hb
        · refine .inr (.inl ?_)
          unfold deadV at hb
          split at hb
          · rename_i e; exact e
          · cases hb
        · exact .inr (.inr ⟨hb.1, locB_iff.1 hb.2⟩)
      · exact sinceB_spec h l (inL_iff.2 hl)
    · cases h
theorem sinceS_ext {ws : S Ω} : sinceS (ws ++ st0) st0 = ws := by
  unfold sinceS
  rw [List.length_append, Nat.add_sub_cancel, List.take_left' rfl]
theorem slots_rep (hr : Rep C G N used st' a w) : ∀ {ls : List (Loc × LS)} {ds : List DL}, slots st' ls = some ds → All2 (fun (p : Loc × LS) d => SlotRep G a w p.1 p.2 d) ls ds
  | [], ds, h => by cases h; exact .nil
  | (l, s) :: r, ds, h => by
    simp only [slots, Option.bind_eq_some_iff] at h
    obtain ⟨d, hd, ds', hds, h⟩ := h
    cases h
    exact .cons (slot_rep hr hd) (slots_rep hr hds)

/-! ### what stands where ways meet -/
def deadsL (ls : List (Loc × LS)) : S Ω := ls.map fun p => (p.1, AV.one .dead)
theorem get_mapDead {α : Type} {f : α → Loc} : ∀ {ls : List α} {l : Loc}, S.get (ls.map fun p => (f p, (AV.one .dead : AV Ω))) l = .one .dead
  | [], l => rfl
  | p :: r, l => by
    show (match locB (f p) l with | true => (AV.one .dead : AV Ω) | false => S.get (r.map fun p => (f p, (AV.one .dead : AV Ω))) l) = _
    split
    · rfl
    · exact get_mapDead
theorem unOut_len : ∀ {ts : List Ty} {y : El (outTy ts)}, (unOut ts y).length = ts.length
  | [], y => rfl
  | [t], y => rfl
  | t :: s :: ts, y => by simp only [unOut, List.length_cons]; rw [unOut_len (ts := s :: ts)]; rfl
theorem unslots_fst : ∀ {ls : List (Loc × LS)} {ds : List DL} {n : Nat}, ds.length = ls.length → (unslots (Ω := Ω) rc n ls ds).map (·.1) = ls.map (·.1)
  | [], _, n, h => by simp [unslots]
  | _ :: _, [], n, h => by cases h
  | (l, s) :: r, d :: ds, n, h => by
    simp only [unslots, List.map_cons]
    rw [unslots_fst (by simpa using h)]
theorem unpackS_fst {ls : List (Loc × LS)} {y : El (outTy (shTys ls))} : (unpackS (Ω := Ω) rc ls y).map (·.1) = ls.map (·.1) :=
  unslots_fst (by rw [unOut_len]; simp [shTys])
theorem SlotRep.cut {p : Id → Bool} {l : Loc} {s : LS} {d : DL} (h : SlotRep G a w l s d) (hl : ∀ id j, l = .box id j → p id = true) : SlotRep (G.cut p) a w l s d := by
  obtain ⟨v, hv, h⟩ := h
  refine ⟨v, ?_, h⟩
  cases l with
  | box id j => obtain ⟨b, n, h1, h2⟩ := hv; exact ⟨b, n, by simp [Ghost.cut, hl id j rfl, h1], h2⟩
  | _ => exact hv
theorem slots_cut {p : Id → Bool} : ∀ {ls : List (Loc × LS)} {ds : List DL}, All2 (fun (p : Loc × LS) d => SlotRep G a w p.1 p.2 d) ls ds → (∀ q ∈ ls, ∀ id j, q.1 = .box id j → p id = true) → All2 (fun (q : Loc × LS) d => SlotRep (G.cut p) a w q.1 q.2 d) ls ds
  | [], _, h, hp => by cases h; exact .nil
  | q :: r, _, h, hp => by
    cases h with
    | cons h1 h2 => exact .cons (h1.cut (hp q (by simp))) (slots_cut h2 fun q hq => hp q (by simp [hq]))
/-- Old ids only. -/
def OldAt (rc : Nat) (st : S Ω) (l : Loc) : Prop := S.get st l = .one .dead ∨ ((∀ id ∈ idsV (S.get st l), id.1 < rc) ∧ ∀ id j, l = .box id j → id.1 < rc)
def OldSh (rc : Nat) (sh : List (Loc × LS)) : Prop := ∀ q ∈ sh, ∀ id j, q.1 = .box id j → id.1 < rc
def SameB (hof : Bool) (sh : List (Loc × LS)) (base st' : S Ω) : Prop := ∀ l, inL l (sh.map (·.1)) = false → (hof = true → l ≠ .om) → S.get base l = .one .dead ∨ S.get base l = S.get st' l
theorem join_put {sh : List (Loc × LS)} {base : S Ω} {y : El (outTy (shTys sh))} (hr : Rep C G N used st' a w) (hb : ∀ l, OldAt rc base l) (hsh : OldSh rc sh) (hsame : SameB false sh base st') (hp : packS st' sh = some y) :
    ∃ G', G'.ρ = G.ρ ∧ Rep C G' N (usedB (rc + 1)) (unpackS rc sh y ++ base) a w := by
  simp only [packS, Option.bind_eq_some_iff] at hp
  obtain ⟨ds, hds, hy⟩ := hp
  have hun := mkOut_un hy
  have h1 : Rep C (G.cut fun id => decide (id.1 < rc)) N (fun id => decide (id.1 < rc) = true) (deadsL sh ++ base) a w := by
    refine hr.cut (p := fun id => decide (id.1 < rc)) fun l => ?_
    have hfst : (deadsL (Ω := Ω) sh).map (·.1) = sh.map (·.1) := by simp [deadsL]
    cases hl : inL l (sh.map (·.1)) with
    | true => rw [get_in (by rw [hfst]; exact hl)]; exact .inl get_mapDead
    | false =>
      rw [get_out (by rw [hfst]; exact hl)]
      rcases hb l with h | ⟨h2, h3⟩
      · exact .inl h
      · rcases hsame l hl (by simp) with h | h
        · exact .inl h
        · rw [h] at h2 ⊢
          exact .inr ⟨rfl, fun id hi => by simpa using h2 id hi, fun id j e => by simpa using h3 id j e⟩
  have h2 := slots_cut (p := fun id => decide (id.1 < rc)) (slots_rep hr hds) (fun q hq id j e => by simpa using hsh q hq id j e)
  obtain ⟨G', e1, e2, h3⟩ := unslots_put (rc := rc) sh ds 0 h1 (fun k => by simp) h2
  refine ⟨G', e1, (h3.mono ?_).congr fun l => ?_⟩
  · rintro id (h | ⟨s, _, rfl⟩)
    · have : id.1 < rc := by simpa using h
      show id.1 < rc + 1
      omega
    · show rc < rc + 1
      omega
  · have e : unpackS (Ω := Ω) rc sh y = unslots rc 0 sh ds := by unfold unpackS; rw [hun]
    rw [e]
    have hfst : (unslots (Ω := Ω) rc 0 sh ds).map (·.1) = sh.map (·.1) := by rw [← e]; exact unpackS_fst
    cases hl : inL l (sh.map (·.1)) with
    | true => rw [get_in (by rw [hfst]; exact hl), get_in (by rw [hfst]; exact hl)]
    | false =>
      rw [get_out (by rw [hfst]; exact hl), get_out (by rw [hfst]; exact hl), get_out]
      simpa [deadsL, Function.comp_def] using hl
theorem join_putH {hof : Bool} {sh : List (Loc × LS)} {base : S Ω} {y : LT hof Ω (outTy (shTys sh))} (hr : Rep C G N used st' a w) (hb : ∀ l, OldAt rc base l) (hsh : OldSh rc sh) (hsame : SameB hof sh base st') (hp : packH hof st' sh = some y) :
    ∃ G', G'.ρ = G.ρ ∧ Rep C G' N (usedB (rc + 1)) (unpackH hof rc sh y ++ base) a w := by
  cases hof with
  | false => exact join_put hr hb hsh hsame hp
  | true =>
    simp only [packH] at hp
    split at hp
    · rename_i s hs
      simp only [Option.bind_eq_some_iff] at hp
      obtain ⟨x, hx, hy⟩ := hp
      cases hy
      have k1 : ∀ l, OldAt rc ([(.om, .one .dead)] ++ base) l := fun l => by
        by_cases h : Loc.om = l
        · subst h; exact .inl (by simp [S.get, locB_self])
        · have := hb l
          unfold OldAt at this ⊢
          simp only [List.cons_append, List.nil_append, S.get, locB_ne h]
          exact this
      have k2 : SameB false sh ([(.om, .one .dead)] ++ base) st' := fun l hl _ => by
        by_cases h : Loc.om = l
        · subst h; exact .inl (by simp [S.get, locB_self])
        · simp only [List.cons_append, List.nil_append, S.get, locB_ne h]
          exact hsame l hl fun _ e => h e.symm
      obtain ⟨G', e1, h1⟩ := join_put hr k1 hsh k2 hx
      refine ⟨G', e1, (Rep.putR (l := .om) (u := .one (.opq s)) h1 ?_).congr fun l => ?_⟩
      · have h2 := hr.at_ .om
        rw [hs] at h2
        rcases h2 with h | ⟨s', e, h⟩
        · cases h
        · exact .inr ⟨s', e, by unfold Ghost.O; rw [e1]; exact h⟩
      · show S.get (((.om, .one (.opq s)) :: unpackS rc sh x) ++ base) l = S.get ((.om, .one (.opq s)) :: (unpackS rc sh x ++ ((.om, .one .dead) :: base))) l
        simp only [List.cons_append, S.get]
        by_cases h : Loc.om = l
        · subst h; simp [locB_self]
        · simp only [locB_ne h]
          cases hl : inL l ((unpackS (Ω := Ω) rc sh x).map (·.1)) with
          | true => rw [get_in hl, get_in hl]
          | false => rw [get_out hl, get_out hl]; simp [S.get, locB_ne h]
    · cases hp
theorem old_at (hr : Rep C G N (usedB rc) st a w) (l : Loc) : OldAt rc st l := by
  by_cases hd : S.get st l = .one .dead
  · exact .inl hd
  · refine .inr ⟨fun id hi => ?_, fun id j e => ?_⟩
    · rcases (hr.at_ l).known id hi with h | h
      · exact hr.usedΓ id h
      · exact hr.usedβ id h
    · subst e
      rcases hr.at_ (.box id j) with h | ⟨b, n, v, h, _⟩
      · exact absurd h hd
      · exact hr.usedβ id (by rw [h]; simp)
theorem kill_get {c : Code} {l : Loc} : S.get (kill c st) l = .one .dead ∨ S.get (kill c st) l = S.get st l := by
  unfold kill
  rw [get_append]
  split
  · exact .inl (get_mapDead (f := Loc.tmp))
  · exact .inr rfl
theorem old_kill (hr : Rep C G N (usedB rc) st a w) (c : Code) (l : Loc) : OldAt rc (kill c st) l := by
  rcases kill_get (st := st) (c := c) (l := l) with h | h
  · exact .inl h
  · unfold OldAt; rw [h]; exact old_at hr l
theorem old_resolve (hr : Rep C G N (usedB rc) st a w) : ∀ {sl : SL} {sh : List (Loc × LS)}, resolveAll st sl = some sh → OldSh rc sh
  | [], sh, h => by cases h; intro q hq; cases hq
  | (p, s) :: r, sh, h => by
    simp only [resolveAll, Option.bind_eq_some_iff] at h
    obtain ⟨l, hl, ls, hls, h⟩ := h
    cases h
    intro q hq id j e
    rcases List.mem_cons.1 hq with rfl | hq
    · cases p with
      | tmp t => cases hl; cases e
      | bx t k =>
        simp only [resolve] at hl
        split at hl
        · rename_i id' off n hg
          cases hl
          cases e
          rcases old_at hr (.tmp t) with h | ⟨h, _⟩
          · rw [hg] at h; cases h
          · exact h _ (by rw [hg]; simp [idsV, idsL])
        · cases hl
    · exact old_resolve hr hls q hq id j e
/-- What a way leaves, at its end. -/
theorem same_join {hof : Bool} {sh : List (Loc × LS)} {c : Code} {ws : S Ω} (h : sinceB hof sh (kill c st) (sinceS (ws ++ st) st) = true) : SameB hof sh (kill c st) (ws ++ st) := by
  rw [sinceS_ext] at h
  intro l hl ho
  cases hw : inL l (ws.map (·.1)) with
  | true =>
    rcases sinceB_spec h l hw with h | h | ⟨h, e⟩
    · rw [h] at hl; cases hl
    · exact .inl h
    · exact absurd e (ho h)
  | false => rw [get_out hw]; exact kill_get
theorem unpackH_out {hof : Bool} {sh : List (Loc × LS)} {y : LT hof Ω (outTy (shTys sh))} {l : Loc} (hl : inL l (sh.map (·.1)) = false) (ho : hof = true → l ≠ .om) : inL l ((unpackH hof rc sh y).map (·.1)) = false := by
  cases hof with
  | false => show inL l ((unpackS rc sh y).map (·.1)) = false; rw [unpackS_fst]; exact hl
  | true =>
    show inL l (Loc.om :: ((unpackS (Ω := Ω) rc sh y.1).map (·.1))) = false
    rw [unpackS_fst]
    have : Loc.om ≠ l := fun e => ho rfl e.symm
    simp only [inL, locB_ne this, hl]
theorem same_loop {hof : Bool} {sh : List (Loc × LS)} {base ws : S Ω} {y : LT hof Ω (outTy (shTys sh))} (h : sinceB hof sh base (sinceS (ws ++ (unpackH hof rc sh y ++ base)) (unpackH hof rc sh y ++ base)) = true) : SameB hof sh base (ws ++ (unpackH hof rc sh y ++ base)) := by
  rw [sinceS_ext] at h
  intro l hl ho
  cases hw : inL l (ws.map (·.1)) with
  | true =>
    rcases sinceB_spec h l hw with h | h | ⟨h, e⟩
    · rw [h] at hl; cases hl
    · exact .inl h
    · exact absurd e (ho h)
  | false => rw [get_out hw, get_out (unpackH_out hl ho)]; exact .inr rfl
theorem same_start {hof : Bool} {sh : List (Loc × LS)} {c : Code} : SameB hof sh (kill c st) st := fun _ _ _ => kill_get
end
end Go.Proofs.Ytbgefphoochgcaa.FE
