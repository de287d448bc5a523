/- FE, part 25: calls. -/
import Derived.Test.YtbgefphoochgcaaFeX
namespace Go.Proofs.Ytbgefphoochgcaa.FE
open Go
set_option linter.unusedVariables false
set_option linter.unusedSimpArgs false
section
variable {Ω : Type} {C : CloRep Ω} {P : Program} {T : Tab} {N : Nat}
variable {rc i : Nat} {G : Ghost} {used used' : Id → Prop} {st ws : S Ω} {a : Act} {w w' : World} {acc rs : List Loc}
variable {dst : Option Nat} {ty : Nat} {pos : String} {after : Array Edge} {guard : Option (Nat × Bool)}

theorem mkTup_un : ∀ {ts : List Ty} {ds : List DL} {x : Tup ts}, mkTup ts ds = some x → unTup ts x = ds
  | [], [], x, h => rfl
  | [], _ :: _, x, h => by cases h
  | _ :: _, [], x, h => by cases h
  | t :: ts, d :: ds, x, h => by
    simp only [mkTup, Option.bind_eq_some_iff] at h
    obtain ⟨y, hy, r, hr, h⟩ := h
    cases h
    obtain ⟨t', x'⟩ := d
    obtain ⟨e, rfl⟩ := cast_eq hy
    cases e
    have ih := mkTup_un hr
    simp only [unTup, ih]
theorem RepC_scalar {w w' : World} {O O' : Nat → Prop} : ∀ {t : Ty} {x : El t} {l : List Value}, scalar t = true → RepC w O t x l → RepC w' O' t x l := by
  intro t
  induction t with
  | pair a b ha hb =>
    rintro x l hs ⟨l1, l2, rfl, h1, h2⟩
    simp only [scalar, Bool.and_eq_true] at hs
    exact ⟨l1, l2, rfl, ha hs.1 h1, hb hs.2 h2⟩
  | st r h => intro x l hs hl; exact h hs hl
  | sl e _ => intro x l hs; cases hs
  | mp k v _ _ => intro x l hs; cases hs
  | pt t _ => intro x l hs; cases hs
  | _ => intro x l hs h; exact h
theorem outB_locs {id : Id} : ∀ {ls : List LS} {ds : List DL} {n j : Nat} {ws : List (Loc × AV Ω)}, outB rc i id n j ls ds = some ws → ws.map (·.1) = boxL id j ls.length
  | [], [], n, j, ws, h => by cases h; rfl
  | [], _ :: _, n, j, ws, h => by cases h
  | _ :: _, [], n, j, ws, h => by cases h
  | s :: ls, d :: ds, n, j, ws, h => by
    simp only [outB, Option.bind_eq_some_iff] at h
    obtain ⟨x, _, ws', hws, h⟩ := h
    cases h
    simp only [List.map_cons, outB_locs hws, List.length_cons, boxL]
theorem outPs_locs : ∀ {xs : List Pln} {ds : List DL} {n p : Nat} {ws : List (Loc × AV Ω)}, outPs rc i n p xs ds = some ws → ∀ l ∈ plnL rc i p xs, l ∈ ws.map (·.1)
  | [], ds, n, p, ws, h, l, hl => by cases hl
  | x :: r, ds, n, p, ws, h, l, hl => by
    rw [plnL_cons, List.mem_append] at hl
    cases x with
    | d d0 =>
      rcases hl with hl | hl
      · cases hl
      · exact outPs_locs (show outPs rc i n (p + 1) r ds = some ws by cases ds <;> exact h) l hl
    | n =>
      rcases hl with hl | hl
      · cases hl
      · exact outPs_locs (show outPs rc i n (p + 1) r ds = some ws by cases ds <;> exact h) l hl
    | t id s =>
      have h' : (outPs rc i n (p + 1) r ds).bind (fun ws => some ((goL rc i p, (AV.one .dead : AV Ω)) :: ws)) = some ws := by cases ds <;> exact h
      simp only [Option.bind_eq_some_iff] at h'
      obtain ⟨ws', hws, h'⟩ := h'
      cases h'
      rcases hl with hl | hl
      · obtain rfl : l = goL rc i p := by simpa [pln1] using hl
        simp
      · exact List.mem_cons_of_mem _ (outPs_locs hws l hl)
    | m l' id s =>
      cases ds with
      | nil => cases h
      | cons d ds =>
        simp only [outPs, Option.bind_eq_some_iff] at h
        obtain ⟨x, _, ws', hws, h⟩ := h
        cases h
        rcases hl with hl | hl
        · obtain rfl : l = l' := by simpa [pln1] using hl
          simp
        · exact List.mem_cons_of_mem _ (outPs_locs hws l hl)
    | b id ls =>
      have h' : (outB rc i id n 0 ls (ds.take ls.length)).bind (fun ws1 => (outPs rc i (n + ls.length) (p + 1) r (ds.drop ls.length)).bind fun ws' => some (ws1 ++ ws')) = some ws := by cases ds <;> exact h
      simp only [Option.bind_eq_some_iff] at h'
      obtain ⟨ws1, hw1, ws2, hw2, h'⟩ := h'
      cases h'
      rw [List.map_append, List.mem_append]
      rcases hl with hl | hl
      · left; rw [outB_locs hw1]; exact hl
      · exact .inr (outPs_locs hw2 l hl)
def deadAll (ws : List (Loc × AV Ω)) : List (Loc × AV Ω) := ws.map fun p => (p.1, .one .dead)
theorem deadAll_fst {ws : List (Loc × AV Ω)} : (deadAll ws).map (·.1) = ws.map (·.1) := by simp [deadAll, Function.comp_def]
theorem get_deadAll : ∀ {ws : List (Loc × AV Ω)} {l : Loc}, S.get (deadAll ws) l = .one .dead
  | [], l => rfl
  | p :: r, l => by
    show (match locB p.1 l with | true => (AV.one .dead : AV Ω) | false => S.get (deadAll r) l) = _
    split
    · rfl
    · exact get_deadAll
theorem RepAt.dead' {l : Loc} : RepAt C G a w l (.one .dead : AV Ω) := by
  cases l with
  | tmp t => exact trivial
  | _ => exact .inl rfl
theorem Rep.putR (hr : Rep C G N used st a w) {l : Loc} {u : AV Ω} (h : RepAt C G a w l u) : Rep C G N used ([(l, u)] ++ st) a w := by
  refine Rep.step (ws := [(l, u)]) hr (Step.refl' hr _) (fun l' hl => ?_) (fun _ _ => rfl) hr.size hr.defers (fun _ _ _ h => .inl h) hr.usedΓ hr.usedβ
  have : l' = l := by simpa [inL_iff] using hl
  subst this
  have e : S.get [(l', u)] l' = u := by simp [S.get, locB_self]
  rw [e]
  exact h
/-- What is told of the results. -/
def ResOut (ρ : Nat → Option Own) (w : World) (own rc i n : Nat) (dst : Option Nat) (rs : List RS) (ds : List DL) (v : Value) : Prop :=
  match rs with
  | [] => ds = []
  | [r] => ds.length = r.tys.length ∧ ∀ d, dst = some d → ResFact ρ w (own.testBit 0) (.tmp d) rc i n r ds v
  | rs => ∀ d, dst = some d → ∃ us : Array Value, v = .tuple us ∧ ResFacts ρ w own d rc i n 0 rs ds us.toList
theorem call_out (hr : Rep C G N used st a w) (hd : ∀ d, dst = some d → d < N) {Gρ : Ghost} {xs : List Pln} {qs : List PS} {vs : List Value} {sg : Sig} {own n : Nat} {d1 d2 : List DL} {v : Value}
    (hs : ∀ L : Loc → Prop, (∀ l ∈ plnL rc i 0 xs, L l) → Step G w Gρ w' L) (hΓ : Gρ.Γ = G.Γ) (hβ : Gρ.β = G.β) (hof : OutFacts (ValAt Gρ (a.put dst v) w') Gρ.ρ Gρ w' qs xs d2 vs)
    (hrf : ResOut Gρ.ρ w' own rc i n dst sg.res d1 v) (hcr : callR sg own rc i dst n xs (d1 ++ d2) = some ws) (hn : ∀ s, n ≤ s → ¬ used (rc, i, s)) :
    ∃ G', Fr Gρ.ρ w' G'.ρ w' ∧ Rep C G' N (usedF used rc i n) (ws ++ st) (a.put dst v) w' := by
  -- the places that are written; what is told of each
  have start : (∀ l ∈ plnL rc i 0 xs, l ∈ ws.map (·.1)) → (∀ d, dst = some d → Loc.tmp d ∈ ws.map (·.1)) → Rep C Gρ N used (deadAll ws ++ st) (a.put dst v) w' := by
    intro h1 h2
    refine Rep.step (ws := deadAll ws) hr (hs _ fun l hl => ?_) (fun l hl => ?_) (fun t ht => ?_) (put_size.trans hr.size) (put_defers.trans hr.defers) (fun id b n h => .inl (by rw [hβ] at h; exact h)) (fun id h => hr.usedΓ id (by rw [hΓ] at h; exact h)) (fun id h => hr.usedβ id (by rw [hβ] at h; exact h))
    · rw [deadAll_fst]; exact inL_iff.2 (h1 l hl)
    · rw [get_deadAll]; exact RepAt.dead'
    · cases hdst : dst with
      | none => rfl
      | some d =>
        refine getD_put_ne fun e => ?_
        subst e
        rw [deadAll_fst, inL_iff.2 (h2 d hdst)] at ht
        cases ht
  have fin : ∀ {G' : Ghost} {lo : Nat}, Moves Gρ w' G' → Rep C G' N (usedF used rc i n) (ws ++ (deadAll ws ++ st)) (a.put dst v) w' → ∃ G', Fr Gρ.ρ w' G'.ρ w' ∧ Rep C G' N (usedF used rc i n) (ws ++ st) (a.put dst v) w' := by
    intro G' lo hm h
    refine ⟨G', hm.fr, h.congr fun l => ?_⟩
    rw [get_append, get_append (st := deadAll ws ++ st)]
    split
    · rfl
    · rename_i hl
      rw [get_out]
      rw [deadAll_fst]
      simpa using hl
  obtain ⟨pars, res⟩ := sg
  match res, hrf, hcr with
  | [], hrf, hcr =>
    obtain rfl : d1 = [] := hrf
    have hcr' : (outPs rc i n 0 xs d2).bind (fun ws => some ((match dst with | some d => [(Loc.tmp d, (AV.one .dead : AV Ω))] | none => []) ++ ws)) = some ws := hcr
    simp only [Option.bind_eq_some_iff] at hcr'
    obtain ⟨wo, hwo, e⟩ := hcr'
    have e := Option.some.inj e
    have hst := start (fun l hl => by rw [← e, List.map_append]; exact List.mem_append.2 (.inr (outPs_locs hwo l hl))) (fun d hd => by rw [← e, hd]; simp)
    obtain ⟨G1, e1, e2, hm, hr1⟩ := outPs_put qs xs d2 vs 0 n hof hwo hst hn
    refine fin (lo := 0) hm ?_
    rw [← e]
    rw [← e] at hr1
    cases dst with
    | none => exact hr1
    | some d => rw [List.append_assoc]; exact hr1.putR RepAt.dead'
  | [r], hrf, hcr =>
    obtain ⟨hl, hrf⟩ := hrf
    cases dst with
    | none =>
      have hcr' : (outPs rc i n 0 xs ((d1 ++ d2).drop r.tys.length)).bind (fun ws => some ws) = some ws := hcr
      rw [← hl, List.drop_left' rfl] at hcr'
      simp only [Option.bind_eq_some_iff] at hcr'
      obtain ⟨wo, hwo, e⟩ := hcr'
      cases e
      have hst := start (fun l hl => outPs_locs hwo l hl) (fun d hd => by cases hd)
      obtain ⟨G1, e1, e2, hm, hr1⟩ := outPs_put qs xs d2 vs 0 n hof hwo hst hn
      exact fin (lo := 0) hm hr1
    | some d =>
      have hcr' : (resP (own.testBit 0) (.tmp d) rc i n r ((d1 ++ d2).take r.tys.length)).bind (fun x => (outPs rc i x.n 0 xs ((d1 ++ d2).drop r.tys.length)).bind fun ws => some ((.tmp d, x.v) :: x.ws ++ ws)) = some ws := hcr
      rw [← hl, List.take_left' rfl, List.drop_left' rfl] at hcr'
      simp only [Option.bind_eq_some_iff] at hcr'
      obtain ⟨x, hx, wo, hwo, e⟩ := hcr'
      have e := Option.some.inj e
      have hst := start (fun l hl => by rw [← e]; simp only [List.cons_append, List.map_cons, List.map_append]; exact List.mem_cons_of_mem _ (List.mem_append.2 (.inr (outPs_locs hwo l hl)))) (fun d' hd => by cases hd; rw [← e]; simp)
      have hxn : n ≤ x.n := by
        have : ∀ {x : Res Ω}, resP (own.testBit 0) (.tmp d) rc i n r d1 = some x → n ≤ x.n := by
          intro x hx
          cases r with
          | v s =>
            obtain ⟨d0, rfl, _⟩ := hrf d rfl
            cases s <;> simp only [resP, Option.bind_eq_some_iff] at hx
            · obtain ⟨z, _, h1⟩ := hx; cases h1; exact Nat.le_refl _
            · obtain ⟨z, _, h1⟩ := hx
              cases ho : own.testBit 0 <;> rw [ho] at h1 <;> cases h1 <;> simp
            · obtain ⟨z, _, h1⟩ := hx
              cases ho : own.testBit 0 <;> rw [ho] at h1 <;> cases h1 <;> simp
          | bx ls =>
            have h1' : (outB rc i (rc, i, n) (n + 1) 0 ls d1).bind (fun ws => some (⟨.one (.ref (rc, i, n) 0 ls.length), .one (.ref (rc, i, n) 0 ls.length), ws, n + 1 + ls.length⟩ : Res Ω)) = some x := hx
            simp only [Option.bind_eq_some_iff] at h1'
            obtain ⟨_, _, h1'⟩ := h1'
            cases h1'; show n ≤ n + 1 + ls.length; omega
        exact this hx
      obtain ⟨G1, e1, e2, hm, hr1⟩ := outPs_put qs xs d2 vs 0 x.n hof hwo hst (fun s hs => hn s (by omega))
      obtain ⟨_, G2, e3, hm2, hr2, hv, _⟩ := resP_put hr1 hn hx (by rw [e1]; exact hrf d rfl)
      have hd' : d < a.tmps.size := by rw [hr.size]; exact hd d rfl
      have hr3 := hr2.putAt hv (show ValAt G2 (a.put (some d) v) w' (.tmp d) v from getD_put hd')
      refine fin (lo := 0) (hm.moves hm2) ?_
      rw [← e]
      rw [← e] at hr3
      simpa using hr3
  | r1 :: r2 :: rs, hrf, hcr =>
    cases dst with
    | none => cases hcr
    | some d =>
      have hcr' : (resMany' own d rc i n 0 (r1 :: r2 :: rs) (d1 ++ d2)).bind (fun y => (outPs rc i y.n 0 xs y.ds).bind fun ws => some ((.tmp d, .tup y.vs) :: y.ws ++ ws)) = some ws := hcr
      simp only [Option.bind_eq_some_iff] at hcr'
      obtain ⟨y, hy, wo, hwo, e⟩ := hcr'
      have e := Option.some.inj e
      obtain ⟨us, ev, hrf⟩ := hrf d rfl
      have hst := start (fun l hl => by rw [← e]; simp only [List.cons_append, List.map_cons, List.map_append]; exact List.mem_cons_of_mem _ (List.mem_append.2 (.inr (outPs_locs hwo l hl)))) (fun d' hd => by cases hd; rw [← e]; simp)
      have hyn : n ≤ y.n ∧ y.ds = d2 := by
        obtain ⟨h1, h2, _⟩ := resMany_put (G := Gρ) (C := C) (used := used) (st := deadAll ws ++ st) (a := a.put (some d) v) (w := w') (N := N) (r1 :: r2 :: rs) d1 d2 us.toList n 0 hy hrf (hst.mono fun _ h => .inl h) hn
        exact ⟨h1, h2⟩
      rw [hyn.2] at hwo
      obtain ⟨G1, e1, e2, hm, hr1⟩ := outPs_put qs xs d2 vs 0 y.n hof hwo hst (fun s hs => hn s (by omega))
      obtain ⟨_, _, G2, e3, hm2, hr2, hall⟩ := resMany_put (r1 :: r2 :: rs) d1 d2 us.toList n 0 hy (by rw [e1]; exact hrf) hr1 hn
      have hd' : d < a.tmps.size := by rw [hr.size]; exact hd d rfl
      have hr3 := hr2.putR (l := .tmp d) (u := .tup y.vs) (show RepAV C G2 w' (some (.tmp d)) (.tup y.vs) ((a.put (some d) v).tmps.getD d undef) by rw [getD_put hd']; exact ⟨us, ev, hall⟩)
      refine fin (lo := 0) (hm.moves hm2) ?_
      rw [← e]
      rw [← e] at hr3
      simpa using hr3
end
end Go.Proofs.Ytbgefphoochgcaa.FE
