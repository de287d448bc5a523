/- FE, part 37: code: what the evaluator finds is what the code does. -/
import Derived.Test.YtbgefphoochgcaaFeJoin
import Derived.Test.YtbgefphoochgcaaFePin
namespace Go.Proofs.Ytbgefphoochgcaa.FE
open Go
set_option linter.unusedVariables false
set_option linter.unusedSimpArgs false
section
variable {Ω : Type} {C : CloRep Ω} {P : Program} {T : Tab} {N : Nat} {Φ : Env Ω}

def codeB (N : Nat) (ps : List Nat) : Code → Bool
  | .region _ ops _ => and (allB (opB N) ops.toList) (allB (pinO ps) ops.toList)
  | .seq a b => and (codeB N ps a) (codeB N ps b)
  | .cond _ a b => and (codeB N ps a) (codeB N ps b)
  | .block _ a | .loop a | .scope a => codeB N ps a
  | _ => true
/-- Where code ends: the state there, and that the evaluator's answer comes from it. -/
def EvPost (C : CloRep Ω) (N : Nat) (ps : List Nat) {R ρ : Type} (G : Ghost) (rc : Nat) (st : S Ω) (a : Act) (w : World) (res : Nat → S Ω → Option ρ) (n : Nat → S Ω → Option R) (x : Nat → Nat → S Ω → Option R) (r : ρ → Option R) (z : R) : Exit → Act → World → Prop
  | .normal, a', w' => ∃ rc' st' G', rc ≤ rc' ∧ (∃ ws, st' = ws ++ st) ∧ Fr G.ρ w G'.ρ w' ∧ Rep C G' N (usedB rc') st' a' w' ∧ Keep ps a a' ∧ n rc' st' = some z
  | .exit e, a', w' => ∃ rc' st' G', rc ≤ rc' ∧ (∃ ws, st' = ws ++ st) ∧ Fr G.ρ w G'.ρ w' ∧ Rep C G' N (usedB rc') st' a' w' ∧ Keep ps a a' ∧ x e rc' st' = some z
  | .ret, a', w' => ∃ rc' st' G', (∃ ws, st' = ws ++ st) ∧ Fr G.ρ w G'.ρ w' ∧ Rep C G' N (usedB rc') st' a' w' ∧ Keep ps a a' ∧ ∃ y, res rc' st' = some y ∧ r y = some z
  | _, _, _ => False
variable {R ρ : Type} {ps : List Nat} {G : Ghost} {rc : Nat} {st : S Ω} {a : Act} {w : World} {res : Nat → S Ω → Option ρ} {n : Nat → S Ω → Option R} {x : Nat → Nat → S Ω → Option R} {r : ρ → Option R} {z : R}
theorem EvPost.norm {rc' : Nat} {st' : S Ω} {G' : Ghost} {a' : Act} {w' : World} (h1 : rc ≤ rc') (h2 : ∃ ws, st' = ws ++ st) (h3 : Fr G.ρ w G'.ρ w') (h4 : Rep C G' N (usedB rc') st' a' w') (hk : Keep ps a a') (h5 : n rc' st' = some z) : EvPost C N ps G rc st a w res n x r z .normal a' w' := ⟨rc', st', G', h1, h2, h3, h4, hk, h5⟩
theorem EvPost.exit {e : Nat} {rc' : Nat} {st' : S Ω} {G' : Ghost} {a' : Act} {w' : World} (h1 : rc ≤ rc') (h2 : ∃ ws, st' = ws ++ st) (h3 : Fr G.ρ w G'.ρ w') (h4 : Rep C G' N (usedB rc') st' a' w') (hk : Keep ps a a') (h5 : x e rc' st' = some z) : EvPost C N ps G rc st a w res n x r z (.exit e) a' w' := ⟨rc', st', G', h1, h2, h3, h4, hk, h5⟩
theorem EvPost.ret {rc' : Nat} {st' : S Ω} {G' : Ghost} {a' : Act} {w' : World} {y : ρ} (h2 : ∃ ws, st' = ws ++ st) (h3 : Fr G.ρ w G'.ρ w') (h4 : Rep C G' N (usedB rc') st' a' w') (hk : Keep ps a a') (h5 : res rc' st' = some y) (h6 : r y = some z) : EvPost C N ps G rc st a w res n x r z .ret a' w' := ⟨rc', st', G', h2, h3, h4, hk, y, h5, h6⟩
theorem EvPost.start {G1 : Ghost} {rc1 : Nat} {st1 : S Ω} {a1 : Act} {w1 : World} (hrc : rc ≤ rc1) (hst : ∃ ws, st1 = ws ++ st) (hf : Fr G.ρ w G1.ρ w1) (hk : Keep ps a a1) {e : Exit} {a' : Act} {w' : World} (h : EvPost C N ps G1 rc1 st1 a1 w1 res n x r z e a' w') : EvPost C N ps G rc st a w res n x r z e a' w' := by
  obtain ⟨ws0, rfl⟩ := hst
  cases e with
  | normal =>
    obtain ⟨rc', st', G', h1, ⟨ws, rfl⟩, h3, h4, k, h5⟩ := h
    exact ⟨rc', _, G', by omega, ⟨ws ++ ws0, by rw [List.append_assoc]⟩, hf.trans h3, h4, hk.trans k, h5⟩
  | exit e =>
    obtain ⟨rc', st', G', h1, ⟨ws, rfl⟩, h3, h4, k, h5⟩ := h
    exact ⟨rc', _, G', by omega, ⟨ws ++ ws0, by rw [List.append_assoc]⟩, hf.trans h3, h4, hk.trans k, h5⟩
  | ret =>
    obtain ⟨rc', st', G', ⟨ws, rfl⟩, h3, h4, k, h5⟩ := h
    exact ⟨rc', _, G', ⟨ws ++ ws0, by rw [List.append_assoc]⟩, hf.trans h3, h4, hk.trans k, h5⟩
  | _ => exact h.elim
theorem region_textP (hT : TabOk P T) (hΦ : EnvOk P C Φ) {H : Hints} {rid : Nat} {all : Array Oper} (hB : ∀ o ∈ all.toList, opB N o = true) (hp : ∀ o ∈ all.toList, pinO ps o = true) {used : Id → Prop} {Q : Exit → Act → World → Prop} (hf : FreshR used rc)
    {st' : S Ω} {log log' : List LogRow} (ht : Trace T Φ H rid rc all all.toList 0 st log st' log') (hr : Rep C G N used st a w)
    (hK : ∀ G' a' w', Fr G.ρ w G'.ρ w' → Rep C G' N (usedN used rc) st' a' w' → Keep ps a a' → Q .normal a' w') : (Code.region rid all false).wp P Q a w := by
  let Q1 : Exit → Act → World → Prop := fun e a' w' => e = .normal ∧ ∃ G', Fr G.ρ w G'.ρ w' ∧ Rep C G' N (usedN used rc) st' a' w'
  have h1 := text_ok hT hΦ hB (Q := Q1) hf all.toList 0 ht rfl (hr.mono fun _ h => .inl h) (fun G' a' w' h1 h2 => ⟨rfl, G', h1, h2⟩)
  rw [← List.range_eq_range', Array.length_toList] at h1
  refine wp_mono (wp_region (wpOps_keep (a0 := a) hp _ Keep.refl h1)) fun e a' w' hq => ?_
  cases e with
  | normal => obtain ⟨⟨_, G', k1, k2⟩, k3⟩ := hq; exact hK G' a' w' k1 k2 k3
  | _ => obtain ⟨h, _⟩ := hq; cases h
theorem region_drawP (hm : P.follows .mixedOrders = true) (hT : TabOk P T) (hΦ : EnvOk P C Φ) {H : Hints} {rid : Nat} {all : Array Oper} (hB : ∀ o ∈ all.toList, opB N o = true) (hp : ∀ o ∈ all.toList, pinO ps o = true) {used : Id → Prop} {Q : Exit → Act → World → Prop} (hf : FreshR used rc)
    {st' : S Ω} {log' : List LogRow} (ht : Trace T Φ H rid rc all all.toList 0 st [] st' log') (hb : backB 0 all.toList = true) (hi : indepAll (Region.before all) log' = true) (hr : Rep C G N used st a w)
    (hK : ∀ G' a' w', Fr G.ρ w G'.ρ w' → Rep C G' N (usedN used rc) st' a' w' → Keep ps a a' → Q .normal a' w') : (Code.region rid all true).wp P Q a w := by
  let Q1 : Exit → Act → World → Prop := fun e a' w' => e = .normal ∧ ∃ G', Fr G.ρ w G'.ρ w' ∧ Rep C G' N (usedN used rc) st' a' w'
  have h1 := region_any hT hΦ hB (Q := Q1) hf ht hb hi hr (fun G' a' w' h1 h2 => ⟨rfl, G', h1, h2⟩)
  refine wp_mono (wp_region_any hm (wpAny_keep (a0 := a) hp _ Keep.refl h1)) fun e a' w' hq => ?_
  cases e with
  | normal => obtain ⟨⟨_, G', k1, k2⟩, k3⟩ := hq; exact hK G' a' w' k1 k2 k3
  | _ => obtain ⟨h, _⟩ := hq; cases h
theorem freshB : FreshR (usedB rc) rc := fun j s h => by
  have : rc < rc := h
  omega
theorem usedN_B : ∀ id, usedN (usedB rc) rc id → usedB (rc + 1) id := by
  rintro id (h | h)
  · have : id.1 < rc := h
    show id.1 < rc + 1
    omega
  · show id.1 < rc + 1
    omega
theorem cond_ok (hr : Rep C G N (usedB rc) st a w) {c : Operand} {t : Bool} (h : condV st c = some t) : a.eval c = .bool t ∧ Rep C G N (usedB rc) (setC c t st) a w ∧ ∃ ws, setC c t st = ws ++ st := by
  cases c with
  | tmp m =>
    simp only [condV] at h
    split at h
    · rename_i b hb
      cases h
      have h2 := hr.at_ (.tmp m)
      rw [hb] at h2
      have h3 : [a.tmps.getD m undef] = [Value.bool t] := h2
      refine ⟨by simpa [Act.eval] using h3, hr.congr (get_pin hb), [(.tmp m, .one (.dat .bool t))], rfl⟩
    · cases h
  | const v =>
    cases v with
    | bool b => cases h; exact ⟨rfl, hr, [], rfl⟩
    | _ => cases h
  | _ => simp only [condV] at h; cases h
theorem unpackH_ext {hof : Bool} {sh : List (Loc × LS)} {c : Code} {y : LT hof Ω (outTy (shTys sh))} : ∃ ws, unpackH hof rc sh y ++ kill c st = ws ++ st := ⟨unpackH hof rc sh y ++ (dsts c).map (fun d => (Loc.tmp d, AV.one .dead)), by unfold kill; rw [List.append_assoc]⟩
theorem nbeq {a b : Nat} : Nat.beq a b = true ↔ a = b := by rw [Nat.beq_eq]
theorem blk_ok {i : Nat} {c : Code} (h : c.wp P (EvPost C N ps G rc st a w res n (fun e rc' st' => match Nat.beq e i with | true => n rc' st' | false => x e rc' st') r z) a w) : (Code.block i c).wp P (EvPost C N ps G rc st a w res n x r z) a w := by
  refine wp_block (wp_mono h fun e a' w' hq => ?_)
  cases e with
  | normal => exact hq
  | exit e =>
    obtain ⟨rc', st', G', q1, q2, q3, q4, hk, q5⟩ := hq
    simp only at q5
    show (if e = i then _ else _)
    by_cases he : e = i
    · rw [if_pos he]
      rw [nbeq.2 he] at q5
      exact EvPost.norm q1 q2 q3 q4 hk q5
    · rw [if_neg he]
      have : Nat.beq e i = false := by
        cases hh : Nat.beq e i
        · rfl
        · exact absurd (nbeq.1 hh) he
      rw [this] at q5
      exact EvPost.exit q1 q2 q3 q4 hk q5
  | ret => exact hq
  | _ => exact hq.elim
theorem ev_ok {ps : List Nat} (hm : P.follows .mixedOrders = true) (hT : TabOk P T) (hΦ : EnvOk P C Φ) {H : Hints} {fuel : Nat} {hof : Bool} :
    ∀ (c : Code) {ρ : Type} {res : Nat → S Ω → Option ρ} {R : Type} {rc : Nat} {G : Ghost} {st : S Ω} {a : Act} {w : World} {n : Nat → S Ω → Option R} {x : Nat → Nat → S Ω → Option R} {r : ρ → Option R} {z : R}, codeB N ps c = true → ev T Φ H fuel hof res R c rc st n x r = some z → Rep C G N (usedB rc) st a w →
      c.wp P (EvPost C N ps G rc st a w res n x r z) a w
  | .skip, ρ, res, R, rc, G, st, a, w, n, x, r, z, hb, h, hr => Go.wp_skip (EvPost.norm (Nat.le_refl _) ⟨[], rfl⟩ (Fr.refl _ _) hr Keep.refl h)
  | .region i ops draw, ρ, res, R, rc, G, st, a, w, n, x, r, z, hb, h, hr => by
    simp only [codeB, Bool.and_eq_true] at hb
    have hB : ∀ o ∈ ops.toList, opB N o = true := allB_spec hb.1
    have hP : ∀ o ∈ ops.toList, pinO ps o = true := allB_spec hb.2
    obtain ⟨st', log', ht, hext, h⟩ := evOps_trace ops.toList 0 st [] _ h
    cases draw with
    | false => exact region_textP hT hΦ hB hP freshB ht hr fun G' a' w' h1 h2 h3 => EvPost.norm (Nat.le_succ _) hext h1 (h2.mono usedN_B) h3 h
    | true =>
      simp only at h
      split at h
      · rename_i hbi
        rw [Bool.and_eq_true] at hbi
        exact region_drawP hm hT hΦ hB hP freshB ht hbi.1 hbi.2 hr fun G' a' w' h1 h2 h3 => EvPost.norm (Nat.le_succ _) hext h1 (h2.mono usedN_B) h3 h
      · cases h
  | .seq c1 c2, ρ, res, R, rc, G, st, a, w, n, x, r, z, hb, h, hr => by
    simp only [codeB, Bool.and_eq_true] at hb
    simp only [ev] at h
    split at h
    · refine wp_seq (wp_mono (ev_ok hm hT hΦ c1 hb.1 h hr) fun e a' w' hq => ?_)
      cases e with
      | normal =>
        obtain ⟨rc', st', G', h1, h2, h3, h4, hk, h5⟩ := hq
        exact wp_mono (ev_ok hm hT hΦ c2 hb.2 h5 h4) fun e a2 w2 hq => hq.start h1 h2 h3 hk
      | exit e => exact hq
      | ret => exact hq
      | _ => exact hq.elim
    · rename_i J hJ
      simp only [Option.bind_eq_some_iff] at h
      obtain ⟨sh, hsh, shx, hshx, o, ho, h⟩ := h
      have old := old_resolve hr hsh
      refine wp_seq (wp_mono (ev_ok hm hT hΦ c1 hb.1 ho hr) fun e a' w' hq => ?_)
      cases e with
      | normal =>
        obtain ⟨rc', st', G', h1, ⟨ws, rfl⟩, h3, h4, hk, h5⟩ := hq
        simp only at h5
        split at h5
        · rename_i hs
          simp only [Option.bind_eq_some_iff] at h5
          obtain ⟨y, hy, h5⟩ := h5
          cases h5
          obtain ⟨G2, e1, h6⟩ := join_putH h4 (old_kill hr c1) old (same_join hs) hy
          exact wp_mono (ev_ok hm hT hΦ c2 hb.2 h h6) fun e a2 w2 hq => hq.start (Nat.le_succ _) unpackH_ext (by rw [e1]; exact h3) hk
        · cases h5
      | exit e =>
        obtain ⟨rc', st', G', h1, ⟨ws, rfl⟩, h3, h4, hk, h5⟩ := hq
        cases hex : J.ex with
        | none => rw [hex] at h5; cases h5
        | some p =>
          obtain ⟨e', s⟩ := p
          rw [hex] at h5 hshx
          simp only at h5
          split at h5
          · rename_i hs
            rw [Bool.and_eq_true, Nat.beq_eq] at hs
            obtain ⟨he, hs⟩ := hs
            subst he
            simp only [Option.bind_eq_some_iff] at h5
            obtain ⟨y, hy, h5⟩ := h5
            cases h5
            obtain ⟨G2, e1, h6⟩ := join_putH h4 (old_kill hr c1) (old_resolve hr hshx) (same_join hs) hy
            simp only [LO.elim, hex] at h
            exact EvPost.exit (C := C) (res := res) (n := n) (x := x) (r := r) (Nat.le_succ _) unpackH_ext (by rw [e1]; exact h3) h6 hk h
          · cases h5
      | ret =>
        obtain ⟨rc', st', G', h2, h3, h4, hk, y, h5, h6⟩ := hq
        cases h6
        exact EvPost.ret (C := C) (rc := rc) (n := n) (x := x) h2 h3 h4 hk h5 h
      | _ => exact hq.elim
  | .cond c c1 c2, ρ, res, R, rc, G, st, a, w, n, x, r, z, hb, h, hr => by
    simp only [codeB, Bool.and_eq_true] at hb
    simp only [ev, Option.bind_eq_some_iff] at h
    obtain ⟨t, ht, h⟩ := h
    obtain ⟨k1, k2, k3⟩ := cond_ok hr ht
    refine wp_cond k1 ?_
    cases t with
    | true => exact wp_mono (ev_ok hm hT hΦ c1 hb.1 h k2) fun e a2 w2 hq => hq.start (Nat.le_refl _) k3 (Fr.refl _ _) Keep.refl
    | false => exact wp_mono (ev_ok hm hT hΦ c2 hb.2 h k2) fun e a2 w2 hq => hq.start (Nat.le_refl _) k3 (Fr.refl _ _) Keep.refl
  | .block i (.loop body), ρ, res, R, rc, G, st, a, w, n, x, r, z, hb, h, hr => by
    simp only [codeB] at hb
    simp only [ev] at h
    split at h
    · cases h
    · rename_i sl hsl
      simp only [Option.bind_eq_some_iff] at h
      obtain ⟨sh, hsh, y0, hy0, o, ho, h⟩ := h
      have old := old_resolve hr hsh
      have oldk := old_kill hr body
      refine wp_block (loop_start ?_)
      have key : ∀ (k : Nat) (y : LT hof Ω (outTy (shTys sh))) (G1 : Ghost) (a1 : Act) (w1 : World), iter (fun self y => ev T Φ H fuel hof res (LO (LT hof Ω (outTy (shTys sh))) Unit ρ) body (rc + 1) (unpackH hof rc sh y ++ kill body st)
          (fun _ st' => match sinceB hof sh (kill body st) (sinceS st' (unpackH hof rc sh y ++ kill body st)) with | true => (packH hof st' sh).bind self | false => none)
          (fun e _ st' => match and (Nat.beq e i) (sinceB hof sh (kill body st) (sinceS st' (unpackH hof rc sh y ++ kill body st))) with | true => (packH hof st' sh).bind fun y => some (.out y) | false => none)
          (fun y => some (.ret y))) k y = some o → Fr G.ρ w G1.ρ w1 → Keep ps a a1 → Rep C G1 N (usedB (rc + 1)) (unpackH hof rc sh y ++ kill body st) a1 w1 →
          LoopAt P body (Exit.inBlock i (EvPost C N ps G rc st a w res n x r z)) a1 w1 := by
        intro k
        induction k with
        | zero => intro y G1 a1 w1 h1; cases h1
        | succ k ih =>
          intro y G1 a1 w1 h1 hf hk1 hr1
          simp only [iter] at h1
          refine loop_round (wp_mono (ev_ok hm hT hΦ body hb h1 hr1) fun e a' w' hq => ?_)
          cases e with
          | normal =>
            obtain ⟨rc', st', G', q1, ⟨ws, rfl⟩, q3, q4, hk, q5⟩ := hq
            simp only at q5
            split at q5
            · rename_i hs
              simp only [Option.bind_eq_some_iff] at q5
              obtain ⟨y', hy', q5⟩ := q5
              obtain ⟨G2, e1, q6⟩ := join_putH q4 oldk old (same_loop hs) hy'
              exact ih y' G2 a' w' q5 (by rw [e1]; exact hf.trans q3) (hk1.trans hk) q6
            · cases q5
          | exit e =>
            obtain ⟨rc', st', G', q1, ⟨ws, rfl⟩, q3, q4, hk, q5⟩ := hq
            simp only at q5
            split at q5
            · rename_i hs
              rw [Bool.and_eq_true, Nat.beq_eq] at hs
              obtain ⟨he, hs⟩ := hs
              subst he
              simp only [Option.bind_eq_some_iff] at q5
              obtain ⟨y', hy', q5⟩ := q5
              cases q5
              obtain ⟨G2, e1, q6⟩ := join_putH q4 oldk old (same_loop hs) hy'
              show (if e = e then _ else _)
              rw [if_pos rfl]
              exact EvPost.norm (Nat.le_succ _) unpackH_ext (by rw [e1]; exact hf.trans q3) q6 (hk1.trans hk) h
            · cases q5
          | ret =>
            obtain ⟨rc', st', G', ⟨ws, rfl⟩, q3, q4, hk, y', q5, q6⟩ := hq
            cases q6
            obtain ⟨wx, ex⟩ := unpackH_ext (st := st) (c := body) (rc := rc) (y := y)
            exact EvPost.ret (C := C) (rc := rc) (n := n) (x := x) ⟨ws ++ wx, by rw [ex, List.append_assoc]⟩ (hf.trans q3) q4 (hk1.trans hk) q5 h
          | _ => exact hq.elim
      obtain ⟨G1, e1, h1⟩ := join_putH hr oldk old same_start hy0
      exact key fuel y0 G1 a w ho (by rw [e1]; exact Fr.refl _ _) Keep.refl h1
  | .exit i, ρ, res, R, rc, G, st, a, w, n, x, r, z, hb, h, hr => wp_exit (EvPost.exit (Nat.le_refl _) ⟨[], rfl⟩ (Fr.refl _ _) hr Keep.refl h)
  | .ret, ρ, res, R, rc, G, st, a, w, n, x, r, z, hb, h, hr => by
    simp only [ev, Option.bind_eq_some_iff] at h
    obtain ⟨y, h1, h2⟩ := h
    exact wp_ret (EvPost.ret ⟨[], rfl⟩ (Fr.refl _ _) hr Keep.refl h1 h2)
  | .block i .skip, ρ, res, R, rc, G, st, a, w, n, x, r, z, hb, h, hr => by
    have h : ev T Φ H fuel hof res R (.skip) rc st n (fun e rc' st' => match Nat.beq e i with | true => n rc' st' | false => x e rc' st') r = some z := h
    exact blk_ok (ev_ok hm hT hΦ (.skip) hb h hr)
  | .block i (.region i' ops draw), ρ, res, R, rc, G, st, a, w, n, x, r, z, hb, h, hr => by
    have h : ev T Φ H fuel hof res R (.region i' ops draw) rc st n (fun e rc' st' => match Nat.beq e i with | true => n rc' st' | false => x e rc' st') r = some z := h
    exact blk_ok (ev_ok hm hT hΦ (.region i' ops draw) hb h hr)
  | .block i (.seq c1 c2), ρ, res, R, rc, G, st, a, w, n, x, r, z, hb, h, hr => by
    have h : ev T Φ H fuel hof res R (.seq c1 c2) rc st n (fun e rc' st' => match Nat.beq e i with | true => n rc' st' | false => x e rc' st') r = some z := h
    exact blk_ok (ev_ok hm hT hΦ (.seq c1 c2) hb h hr)
  | .block i (.cond c c1 c2), ρ, res, R, rc, G, st, a, w, n, x, r, z, hb, h, hr => by
    have h : ev T Φ H fuel hof res R (.cond c c1 c2) rc st n (fun e rc' st' => match Nat.beq e i with | true => n rc' st' | false => x e rc' st') r = some z := h
    exact blk_ok (ev_ok hm hT hΦ (.cond c c1 c2) hb h hr)
  | .block i (.block i' c), ρ, res, R, rc, G, st, a, w, n, x, r, z, hb, h, hr => by
    have h : ev T Φ H fuel hof res R (.block i' c) rc st n (fun e rc' st' => match Nat.beq e i with | true => n rc' st' | false => x e rc' st') r = some z := h
    exact blk_ok (ev_ok hm hT hΦ (.block i' c) hb h hr)
  | .block i (.exit i'), ρ, res, R, rc, G, st, a, w, n, x, r, z, hb, h, hr => by
    have h : ev T Φ H fuel hof res R (.exit i') rc st n (fun e rc' st' => match Nat.beq e i with | true => n rc' st' | false => x e rc' st') r = some z := h
    exact blk_ok (ev_ok hm hT hΦ (.exit i') hb h hr)
  | .block i .ret, ρ, res, R, rc, G, st, a, w, n, x, r, z, hb, h, hr => by
    have h : ev T Φ H fuel hof res R (.ret) rc st n (fun e rc' st' => match Nat.beq e i with | true => n rc' st' | false => x e rc' st') r = some z := h
    exact blk_ok (ev_ok hm hT hΦ (.ret) hb h hr)
  | .loop c, ρ, res, R, rc, G, st, a, w, n, x, r, z, hb, h, hr => by simp only [ev] at h; cases h
  | .rangeFunc f ps c1 c2, ρ, res, R, rc, G, st, a, w, n, x, r, z, hb, h, hr => by simp only [ev] at h; cases h
  | .scope c, ρ, res, R, rc, G, st, a, w, n, x, r, z, hb, h, hr => by simp only [ev] at h; cases h
  | .label l, ρ, res, R, rc, G, st, a, w, n, x, r, z, hb, h, hr => by simp only [ev] at h; cases h
  | .goto l, ρ, res, R, rc, G, st, a, w, n, x, r, z, hb, h, hr => by simp only [ev] at h; cases h
  | .refuse s, ρ, res, R, rc, G, st, a, w, n, x, r, z, hb, h, hr => by simp only [ev] at h; cases h
end
end Go.Proofs.Ytbgefphoochgcaa.FE
