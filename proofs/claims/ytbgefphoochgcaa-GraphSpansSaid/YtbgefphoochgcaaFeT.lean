/- FE, part 20: functions by contract: the way in. -/
import Derived.Test.YtbgefphoochgcaaFeS
namespace Go.Proofs.Ytbgefphoochgcaa.FE
open Go
set_option linter.unusedVariables false
set_option linter.unusedSimpArgs false
section
variable {Ω : Type} {C : CloRep Ω} {P : Program} {T : Tab} {N : Nat}
variable {rc i : Nat} {dst : Option Nat} {ty : Nat} {pos : String} {after : Array Edge} {guard : Option (Nat × Bool)}
variable {G : Ghost} {used used' : Id → Prop} {st ws : S Ω} {a : Act} {w w' : World} {acc rs : List Loc} {o : Oper} {K : Act → World → Prop} {Q : Exit → Act → World → Prop}

def usedA (used : Id → Prop) (rc i p : Nat) : Id → Prop := fun id => used id ∨ ∃ s, 1 ≤ s ∧ s < 1 + 2 * p ∧ id = (rc, i, s)
theorem usedA_new {p s : Nat} (hf : FreshAt used rc i) (h : 1 + 2 * p ≤ s) : ¬ usedA used rc i p (rc, i, s) := by
  rintro (h' | ⟨s', _, h2, e⟩)
  · exact hf s h'
  · simp only [Prod.mk.injEq, true_and] at e; omega
theorem argsP_runs {sc : Bool} (hf : FreshAt used rc i) : ∀ (qs : List PS) (os : List Operand) (p : Nat) {G : Ghost} {st : S Ω} {f : List Pln → Prg Ω} {acc : List Loc} {ws : List (Loc × AV Ω)}, Rep C G N (usedA used rc i p) st a w → (argsP sc rc i p qs os f).Runs st acc rs ws →
    ∃ xs ws' ws2 acc' G1, ws = ws2 ++ ws' ∧ (f xs).Runs (ws' ++ st) acc' rs ws2 ∧ Moves G w G1 ∧ Rep C G1 N (usedA used rc i (p + qs.length)) (ws' ++ st) a w ∧ PlnsOk sc G1 w qs xs (os.map a.eval)
  | [], [], p, G, st, f, acc, ws, hr, h => ⟨[], [], ws, acc, G, by simp, h, Step.refl' hr _, hr, trivial⟩
  | [], _ :: _, p, G, st, f, acc, ws, hr, h => h.elim
  | _ :: _, [], p, G, st, f, acc, ws, hr, h => h.elim
  | q :: qs, o :: os, p, G, st, f, acc, ws, hr, h => by
    have h' : Prg.Runs st (opG o fun v => argP sc rc i p q o v fun x => argsP sc rc i (p + 1) qs os fun xs => f (x :: xs)) acc rs ws := h
    obtain ⟨v, acc1, h', hv, hs⟩ := runs_opG hr h'
    obtain ⟨x, ws', ws2, acc2, G1, rfl, h', hm, hr1, hx⟩ := argP_runs hr hv hs (usedA_new hf (by omega)) (usedA_new hf (by omega)) (used' := usedA used rc i (p + 1)) (by
      rintro id (h | ⟨s, h1, h2, e⟩)
      · exact .inl h
      · exact .inr ⟨s, h1, by omega, e⟩) (.inr ⟨_, by omega, by omega, rfl⟩) (.inr ⟨_, by omega, by omega, rfl⟩) h'
    obtain ⟨xs, ws3, ws4, acc3, G2, rfl, h', hm2, hr2, hxs⟩ := argsP_runs hf qs os (p + 1) hr1 h'
    refine ⟨x :: xs, ws3 ++ ws', ws4, acc3, G2, by simp, by rw [List.append_assoc]; exact h', hm.moves hm2, ?_, hx.moves hm2, hxs⟩
    rw [List.append_assoc, List.length_cons, show p + (qs.length + 1) = p + 1 + qs.length by omega]
    exact hr2

/-! ### what is handed over, read -/
/-- The value that stands at a place. -/
def ValAt (G : Ghost) (a : Act) (w : World) (l : Loc) (v : Value) : Prop :=
  match l with
  | .tmp t => a.tmps.getD t undef = v
  | .box id j => ∃ b n, G.β id = some (b, n) ∧ w.cell? ⟨b, j, none⟩ = some v
  | .comp _ _ => True
  | .om => False
def PlnRep (VA : Loc → Value → Prop) (sc : Bool) (ρ : Nat → Option Own) (w : World) (rc i p : Nat) (q : PS) (x : Pln) (ds : List DL) (v : Value) : Prop :=
  match q, x with
  | .v (.dat t), .d _ => ∃ y, ds = [⟨t, y⟩] ∧ RepV w (match sc with | true => fun b => ρ b = some .om | false => Ow ρ) t y v
  | .v s, .t _ _ => datS s = false ∧ ∃ d, ds = [d] ∧ LSRep ρ w (.at_ (goL rc i p)) s d v
  | .mu s, .m l _ s' => s' = s ∧ datS s = false ∧ VA l v ∧ ∃ d, ds = [d] ∧ LSRep ρ w (.at_ l) s d v
  | .ep t, .d _ => ∃ y b off l, ds = [⟨t, y⟩] ∧ v = .pointer (some ⟨b, off, none⟩) ∧ ¬ Ow ρ b ∧ RepC w (Ow ρ) t y l ∧ At w b off l
  | .bx ls, .b id ls' => ls' = ls ∧ 0 < ls.length ∧ BoxRep ρ w id ls ds v
  | .fn, .n => ds = []
  | _, _ => False
def PlnsRep (VA : Loc → Value → Prop) (sc : Bool) (ρ : Nat → Option Own) (w : World) (rc i : Nat) : Nat → List PS → List Pln → List DL → List Value → Prop
  | _, [], xs, ds, vs => xs = [] ∧ ds = [] ∧ vs = []
  | p, q :: qs, xs, ds, vs => ∃ x xs' d1 d2 v vs', xs = x :: xs' ∧ ds = d1 ++ d2 ∧ vs = v :: vs' ∧ PlnRep VA sc ρ w rc i p q x d1 v ∧ PlnsRep VA sc ρ w rc i (p + 1) qs xs' d2 vs'
theorem RepAt.val {l : Loc} {id : Id} {u : AV Ω} {v : Value} (h : RepAt C G a w l u) (h1 : idV id u = true) (hΓ : ∃ bs, G.Γ id = some (v, bs)) : ValAt G a w l v := by
  have key : ∀ {v'}, RepAV1 C G w (some l) u v' → v' = v := by
    intro v' h
    obtain ⟨bs, hΓ⟩ := hΓ
    unfold idV at h1
    split at h1
    · obtain rfl := idB_iff.1 h1
      obtain ⟨_, _, ⟨bs', h2⟩, _⟩ := h
      rw [hΓ] at h2; cases h2; rfl
    · obtain rfl := idB_iff.1 h1
      obtain ⟨_, bs', _, h2, _⟩ := h
      rw [hΓ] at h2; cases h2; rfl
    · cases h1
  have hd : u ≠ .one .dead := by rintro rfl; cases h1
  cases l with
  | tmp t =>
    have h' : RepAV C G w (some (.tmp t)) u (a.tmps.getD t undef) := h
    cases u with
    | tup vs => cases h1
    | _ => exact key h'
  | comp t n => trivial
  | box id j =>
    rcases h with h | ⟨b, n, v', h2, h3, h4⟩
    · exact absurd h hd
    · exact ⟨b, n, h2, by rw [h3, key h4]⟩
  | om =>
    rcases h with h | ⟨s, h2, _⟩
    · exact absurd h hd
    · subst h2; cases h1
theorem leaf_own (hr : Rep C G N used st a w) {l : Loc} {s : LS} {d : DL} {id : Id} {v : Value} (hs : datS s = false) (h1 : idV id (st.get l) = true) (h2 : leafLS s (st.get l) = some d) (hΓ : ∃ bs, G.Γ id = some (v, bs)) : LSRep G.ρ w (.at_ l) s d v := by
  unfold leafLS at h2
  split at h2
  · cases hs
  · rename_i e id' e' xs hl
    simp only [Option.map_eq_some_iff] at h2
    obtain ⟨ys, hc, rfl⟩ := h2
    obtain ⟨ee, rfl⟩ := cast_eq hc
    cases ee
    have h1 : idB id id' = true := by rw [hl] at h1; exact h1
    exact ⟨_, rfl, ali_arr hr hΓ hl h1⟩
  · rename_i hl
    rw [hl] at h1; cases h1
  · rename_i k u id' k' u' m hl
    simp only [Option.map_eq_some_iff] at h2
    obtain ⟨ys, hc, rfl⟩ := h2
    obtain ⟨ee, rfl⟩ := cast_eq hc
    cases ee
    have h1 : idB id id' = true := by rw [hl] at h1; exact h1
    obtain ⟨bs, hΓ⟩ := hΓ
    exact ⟨_, bs, rfl, ali_omp hr hΓ hl h1⟩
  · cases h2
/-- What can be packed is data. -/
def datL : Leaf Ω → Bool | .dat _ _ | .nilS | .nilM | .nilP => true | _ => false
theorem pack_dat : ∀ {t : Ty} {ls : List (Leaf Ω)} {z : El t × List (Leaf Ω)}, pack t ls = some z → ∃ us, ls = us ++ z.2 ∧ ∀ l ∈ us, datL l = true := by
  intro t
  have leaf : ∀ {t : Ty} {ls : List (Leaf Ω)} {z : El t × List (Leaf Ω)}, (∀ a b, t ≠ .pair a b) → (∀ r, t ≠ .st r) → t ≠ .unit → pack t ls = some z → ∃ us, ls = us ++ z.2 ∧ ∀ l ∈ us, datL l = true := by
    intro t ls z h1 h2 h3 h
    have one : ∀ {l : Leaf Ω} {r : List (Leaf Ω)}, ls = l :: r → z.2 = r → datL l = true → ∃ us, ls = us ++ z.2 ∧ ∀ l ∈ us, datL l = true := by
      intro l r e1 e2 hd
      refine ⟨[l], by rw [e1, e2]; rfl, fun x hx => ?_⟩
      obtain rfl : x = l := by simpa using hx
      exact hd
    cases ls with
    | nil => cases t <;> first | exact absurd rfl (h1 _ _) | exact absurd rfl (h2 _) | exact absurd rfl h3 | cases h
    | cons l r =>
      cases l with
      | dat t' x =>
        have h' : (cast? t' t x).bind (fun y => some (y, r)) = some z := by
          cases t <;> first | exact absurd rfl (h1 _ _) | exact absurd rfl (h2 _) | exact absurd rfl h3 | exact h
        simp only [Option.bind_eq_some_iff] at h'
        obtain ⟨y, _, e⟩ := h'
        cases e
        exact one rfl rfl rfl
      | nilS => cases t <;> first | exact absurd rfl (h1 _ _) | exact absurd rfl (h2 _) | exact absurd rfl h3 | cases h <;> exact one rfl rfl rfl
      | nilM => cases t <;> first | exact absurd rfl (h1 _ _) | exact absurd rfl (h2 _) | exact absurd rfl h3 | cases h <;> exact one rfl rfl rfl
      | nilP => cases t <;> first | exact absurd rfl (h1 _ _) | exact absurd rfl (h2 _) | exact absurd rfl h3 | cases h <;> exact one rfl rfl rfl
      | _ => cases t <;> first | exact absurd rfl (h1 _ _) | exact absurd rfl (h2 _) | exact absurd rfl h3 | cases h
  induction t with
  | pair a b ha hb =>
    intro ls z h
    simp only [pack, Option.bind_eq_some_iff] at h
    obtain ⟨x, hx, y, hy, e⟩ := h
    cases e
    obtain ⟨u1, e1, h1⟩ := ha hx
    obtain ⟨u2, e2, h2⟩ := hb hy
    refine ⟨u1 ++ u2, by rw [e1, e2, List.append_assoc], fun l hl => ?_⟩
    rcases List.mem_append.1 hl with h | h
    · exact h1 l h
    · exact h2 l h
  | st r ih => intro ls z h; exact ih h
  | unit => intro ls z h; cases h; exact ⟨[], rfl, fun l hl => by cases hl⟩
  | _ => intro ls z h; exact leaf (fun _ _ => by simp) (fun _ => by simp) (by simp) h
theorem packAll_dat {t : Ty} {ls : List (Leaf Ω)} {x : El t} (h : packAll t ls = some x) : ∀ l ∈ ls, datL l = true := by
  unfold packAll at h
  simp only [Option.bind_eq_some_iff] at h
  obtain ⟨z, hz, hx⟩ := h
  obtain ⟨us, e, hu⟩ := pack_dat hz
  split at hx
  · rename_i e0
    rw [e0, List.append_nil] at e
    subst e
    exact hu
  · cases hx
theorem leaf_box {id : Id} {j : Nat} {u : AV Ω} {v : Value} {s : LS} {d : DL} (h : RepAV1 C G w (some (.box id j)) u v) (h2 : leafLS s u = some d) : LSRep G.ρ w (.at_ (.box id j)) s d v := by
  unfold leafLS at h2
  split at h2
  · rename_i t l
    simp only [Option.map_eq_some_iff] at h2
    obtain ⟨y, hy, rfl⟩ := h2
    have hd := packAll_dat hy l (by simp)
    have h' : RepL C G w none l v := by cases l <;> first | exact h | cases hd
    exact ⟨y, rfl, packAll_rep hy (.cons h' .nil)⟩
  · simp only [Option.map_eq_some_iff] at h2
    obtain ⟨ys, hc, rfl⟩ := h2
    obtain ⟨ee, rfl⟩ := cast_eq hc
    cases ee
    obtain ⟨l, e, _, ha⟩ := h
    cases e
    exact ⟨_, rfl, ha⟩
  · cases h2
    exact ⟨[], rfl, .inl ⟨rfl, h⟩⟩
  · simp only [Option.map_eq_some_iff] at h2
    obtain ⟨ys, hc, rfl⟩ := h2
    obtain ⟨ee, rfl⟩ := cast_eq hc
    cases ee
    obtain ⟨l, bs, e, _, ha⟩ := h
    cases e
    exact ⟨_, bs, rfl, ha⟩
  · cases h2
theorem leafLS_dead {s : LS} {d : DL} (h : leafLS s (.one .dead : AV Ω) = some d) : False := by
  cases s with
  | dat t =>
    simp only [leafLS, Option.map_eq_some_iff] at h
    obtain ⟨y, hy, _⟩ := h
    cases packAll_dat hy _ (List.mem_cons_self)
  | _ => cases h
theorem readB_runs (hr : Rep C G N used st a w) {id : Id} {b n : Nat} (hb : G.β id = some (b, n)) : ∀ (ls : List LS) (j : Nat) {f : List DL → Prg Ω} {acc : List Loc}, (readB id j ls f).Runs st acc rs ws →
    ∃ ds acc', (f ds).Runs st acc' rs ws ∧ ds.length = ls.length ∧ ∀ k s d u, ls[k]? = some s → ds[k]? = some d → w.cell? ⟨b, j + k, none⟩ = some u → LSRep G.ρ w (.at_ (.box id (j + k))) s d u
  | [], j, f, acc, h => ⟨[], acc, h, rfl, fun k s d u h => by simp at h⟩
  | s :: ls, j, f, acc, h => by
    have h' : Prg.Runs st (.get (.box id j) fun v => Prg.opt (leafLS s v) fun d => readB id (j + 1) ls fun ds => f (d :: ds)) acc rs ws := h
    obtain ⟨d, hd, h'⟩ := runs_opt (m := leafLS s (st.get (.box id j))) h'
    obtain ⟨ds, acc', h', hl, hx⟩ := readB_runs hr hb ls (j + 1) h'
    refine ⟨d :: ds, acc', h', by simp [hl], fun k s' d' u h1 h2 h3 => ?_⟩
    cases k with
    | zero =>
      simp at h1 h2
      subst h1 h2
      rcases hr.at_ (.box id j) with h4 | ⟨b', n', v, h4, h5, h6⟩
      · rw [h4] at hd; exact (leafLS_dead hd).elim
      · rw [hb] at h4
        cases h4
        rw [Nat.add_zero] at h3
        rw [h3] at h5
        cases h5
        exact leaf_box h6 hd
    | succ k =>
      rw [show j + (k + 1) = j + 1 + k by omega]
      exact hx k s' d' u (by simpa using h1) (by simpa using h2) (by rw [show j + 1 + k = j + (k + 1) by omega]; exact h3)
theorem readP_runs {sc : Bool} {p : Nat} {q : PS} {x : Pln} {v : Value} (hr : Rep C G N used st a w) (hx : PlnOk sc G w q x v) {f : List DL → Prg Ω} (h : (readP rc i p x f).Runs st acc rs ws) :
    ∃ ds acc', (f ds).Runs st acc' rs ws ∧ PlnRep (ValAt G a w) sc G.ρ w rc i p q x ds v := by
  have own : ∀ {l : Loc} {id : Id} {s : LS}, datS s = false → (∃ bs, G.Γ id = some (v, bs)) → (Prg.get l fun u => match idV id u with | true => Prg.opt (leafLS s u) fun d => f [d] | false => .fail).Runs st acc rs ws →
      ∃ d acc', (f [d]).Runs st acc' rs ws ∧ LSRep G.ρ w (.at_ l) s d v ∧ ValAt G a w l v := by
    intro l id s hs hΓ h
    have h' : Prg.Runs st (match idV id (st.get l) with | true => Prg.opt (leafLS s (st.get l)) fun d => f [d] | false => .fail) (l :: acc) rs ws := h
    split at h'
    · rename_i hi
      obtain ⟨d, hd, h'⟩ := runs_opt h'
      exact ⟨d, _, h', leaf_own hr hs hi hd hΓ, (hr.at_ l).val hi hΓ⟩
    · exact h'.elim
  cases q with
  | v s =>
    cases s with
    | dat t =>
      cases x with
      | d d => obtain ⟨y, rfl, hy⟩ := hx; exact ⟨_, _, h, y, rfl, hy⟩
      | t id s' => obtain ⟨_, h, _⟩ := hx; cases h
      | _ => exact hx.elim
    | _ =>
      cases x <;> first
        | exact hx.elim
        | (obtain ⟨rfl, hs, hΓ⟩ := hx
           obtain ⟨d, acc', h1, h2, _⟩ := own hs hΓ h
           exact ⟨_, _, h1, hs, d, rfl, h2⟩)
  | mu s =>
    cases x <;> first
      | exact hx.elim
      | (obtain ⟨rfl, hs, hΓ⟩ := hx
         obtain ⟨d, acc', h1, h2, h3⟩ := own hs hΓ h
         exact ⟨_, _, h1, rfl, hs, h3, d, rfl, h2⟩)
  | ep t =>
    cases x with
    | d d => obtain ⟨y, b, off, l, rfl, hy⟩ := hx; exact ⟨_, _, h, y, b, off, l, rfl, hy⟩
    | _ => exact hx.elim
  | bx ls =>
    cases x with
    | b id ls' =>
      obtain ⟨rfl, h0, b, hb, hv⟩ := hx
      obtain ⟨ds, acc', h1, h2, h3⟩ := readB_runs hr hb _ 0 h
      obtain ⟨hρ, c, el, hh, hsz⟩ := hr.box id b _ hb
      refine ⟨ds, acc', h1, rfl, h0, b, c, el, hv, hρ, hh, hsz, h2, fun j s d u k1 k2 k3 => ?_⟩
      have := h3 j s d u k1 k2 (by simp [World.cell?, hh, k3])
      rwa [Nat.zero_add] at this
    | _ => exact hx.elim
  | fn =>
    cases x with
    | n => exact ⟨[], _, h, rfl⟩
    | _ => exact hx.elim
theorem readPs_runs {sc : Bool} (hr : Rep C G N used st a w) : ∀ (qs : List PS) (xs : List Pln) (vs : List Value) (p : Nat) {f : List DL → Prg Ω} {acc : List Loc}, PlnsOk sc G w qs xs vs → (readPs rc i p xs f).Runs st acc rs ws →
    ∃ ds acc', (f ds).Runs st acc' rs ws ∧ PlnsRep (ValAt G a w) sc G.ρ w rc i p qs xs ds vs
  | [], [], [], p, f, acc, _, h => ⟨[], acc, h, rfl, rfl, rfl⟩
  | q :: qs, x :: xs, v :: vs, p, f, acc, hx, h => by
    obtain ⟨d1, acc1, h1, h2⟩ := readP_runs (f := fun ds => readPs rc i (p + 1) xs fun ds' => f (ds ++ ds')) hr hx.1 h
    obtain ⟨d2, acc2, h3, h4⟩ := readPs_runs hr qs xs vs (p + 1) (f := fun ds' => f (d1 ++ ds')) hx.2 h1
    exact ⟨_, acc2, h3, x, xs, d1, d2, v, vs, rfl, rfl, rfl, h2, h4⟩
  | [], _ :: _, _, _, _, _, h, _ => h.elim
  | [], [], _ :: _, _, _, _, h, _ => h.elim
  | _ :: _, [], _, _, _, _, h, _ => h.elim
  | _ :: _, _ :: _, [], _, _, _, h, _ => h.elim
end
end Go.Proofs.Ytbgefphoochgcaa.FE
