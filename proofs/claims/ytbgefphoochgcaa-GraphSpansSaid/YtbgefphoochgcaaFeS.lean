/- FE, part 19: functions by contract: the contract; what is handed over. -/
import Derived.Test.YtbgefphoochgcaaFeRb
namespace Go.Proofs.Ytbgefphoochgcaa.FE
open Go
set_option linter.unusedVariables false
set_option linter.unusedSimpArgs false

/-! ### the contract -/
def LSRep (ρ : Nat → Option Own) (w : World) (o : Own) (s : LS) (d : DL) (v : Value) : Prop :=
  match s with
  | .dat t => ∃ x, d = ⟨t, x⟩ ∧ RepC w (Ow ρ) t x [v]
  | .arr e => ∃ xs, d = ⟨.sl e, xs⟩ ∧ ArrRep ρ w o e xs v
  | .omp k u => ∃ m bs, d = ⟨.mp k u, m⟩ ∧ MapRep ρ w o k u m v bs
def BoxRep (ρ : Nat → Option Own) (w : World) (id : Id) (ls : List LS) (ds : List DL) (v : Value) : Prop :=
  ∃ b c el, v = .pointer (some ⟨b, 0, none⟩) ∧ ρ b = some (.bx id) ∧ w.heap[b]? = some (.cells c el (0, 0)) ∧ c.size = ls.length ∧ ds.length = ls.length ∧
    ∀ (j : Nat) s d u, ls[j]? = some s → ds[j]? = some d → c[j]? = some u → LSRep ρ w (.at_ (.box id j)) s d u
def ParRep (ρ : Nat → Option Own) (w : World) (p : Nat) (q : PS) (ds : List DL) (v : Value) : Prop :=
  match q with
  | .v (.dat t) => ∃ x, ds = [⟨t, x⟩] ∧ RepV w (Ow ρ) t x v
  | .v s | .mu s => ∃ d, ds = [d] ∧ LSRep ρ w (.at_ (.tmp p)) s d v
  | .ep t => ∃ x b off l, ds = [⟨t, x⟩] ∧ v = .pointer (some ⟨b, off, none⟩) ∧ ¬ Ow ρ b ∧ RepC w (Ow ρ) t x l ∧ At w b off l
  | .bx ls => BoxRep ρ w (0, 0, p) ls ds v
  | .fn => ds = []
def ParsRep (ρ : Nat → Option Own) (w : World) : Nat → List PS → List DL → List Value → Prop
  | _, [], ds, vs => ds = [] ∧ vs = []
  | p, q :: qs, ds, vs => ∃ d1 d2 v vs', ds = d1 ++ d2 ∧ vs = v :: vs' ∧ ParRep ρ w p q d1 v ∧ ParsRep ρ w (p + 1) qs d2 vs'
def OutRep (ρ : Nat → Option Own) (w : World) (p : Nat) (q : PS) (ds : List DL) (v : Value) : Prop :=
  match q with
  | .mu s => ∃ d, ds = [d] ∧ LSRep ρ w (.at_ (.tmp p)) s d v
  | .bx ls => BoxRep ρ w (0, 0, p) ls ds v
  | _ => ds = []
def OutsRep (ρ : Nat → Option Own) (w : World) : Nat → List PS → List DL → List Value → Prop
  | _, [], ds, vs => ds = [] ∧ vs = []
  | p, q :: qs, ds, vs => ∃ d1 d2 v vs', ds = d1 ++ d2 ∧ vs = v :: vs' ∧ OutRep ρ w p q d1 v ∧ OutsRep ρ w (p + 1) qs d2 vs'
def ResRep (ρ : Nat → Option Own) (w : World) (n : Nat) (r : RS) (ds : List DL) (v : Value) : Prop :=
  match r with
  | .v (.dat t) => ∃ x, ds = [⟨t, x⟩] ∧ RepV w (Ow ρ) t x v
  | .v s => ∃ d, ds = [d] ∧ LSRep ρ w (.at_ (.comp 0 n)) s d v
  | .bx ls => BoxRep ρ w (0, 1, n) ls ds v
def ResList (ρ : Nat → Option Own) (w : World) : Nat → List RS → List DL → List Value → Prop
  | _, [], ds, vs => ds = [] ∧ vs = []
  | n, r :: rs, ds, vs => ∃ d1 d2 v vs', ds = d1 ++ d2 ∧ vs = v :: vs' ∧ ResRep ρ w n r d1 v ∧ ResList ρ w (n + 1) rs d2 vs'
def ResAll (ρ : Nat → Option Own) (w : World) (rs : List RS) (ds : List DL) (v : Value) : Prop :=
  match rs with
  | [] => ds = []
  | [r] => ResRep ρ w 0 r ds v
  | rs => ∃ us : Array Value, v = .tuple us ∧ ResList ρ w 0 rs ds us.toList
/-- A function does in memory what its Lean function says. -/
structure Sound (P : Program) (f : Nat) (fn : Fun) : Prop where
  enter : ∀ args w, (callFunc f args).run P w = .ok (.enter f args) w
  calls : ∀ (ρ : Nat → Option Own) w (args : Array Value) x y, fn.f x = some y → (∀ b, Ow ρ b → b < w.heap.size) → ParsRep ρ w 0 fn.sig.pars (unTup _ x) args.toList →
    Calls P f args w fun e w' => ∃ v ρ', e = .returned v ∧ Fr ρ w ρ' w' ∧ (∀ b, Ow ρ' b → b < w'.heap.size) ∧ ∃ d1 d2, unOut fn.sig.outs y = d1 ++ d2 ∧ ResAll ρ' w' fn.sig.res d1 v ∧ OutsRep ρ' w' 0 fn.sig.pars d2 args.toList

section
variable {Ω : Type} {C : CloRep Ω} {P : Program} {T : Tab} {N : Nat}
variable {rc i : Nat} {dst : Option Nat} {ty : Nat} {pos : String} {after : Array Edge} {guard : Option (Nat × Bool)}
variable {G : Ghost} {used used' : Id → Prop} {st ws : S Ω} {a : Act} {w w' : World} {acc rs : List Loc} {o : Oper} {K : Act → World → Prop} {Q : Exit → Act → World → Prop}

/-! ### one argument -/
def datS : LS → Bool | .dat _ => true | _ => false
def PlnOk (sc : Bool) (G : Ghost) (w : World) (q : PS) (x : Pln) (v : Value) : Prop :=
  match q, x with
  | .v (.dat t), .d d => ∃ y, d = ⟨t, y⟩ ∧ RepV w (match sc with | true => fun b => G.ρ b = some .om | false => G.O) t y v
  | .v s, .t id s' => s' = s ∧ datS s = false ∧ ∃ bs, G.Γ id = some (v, bs)
  | .mu s, .m l id s' => s' = s ∧ datS s = false ∧ ∃ bs, G.Γ id = some (v, bs)
  | .ep t, .d d => ∃ y b off l, d = ⟨t, y⟩ ∧ v = .pointer (some ⟨b, off, none⟩) ∧ ¬ G.O b ∧ RepC w G.O t y l ∧ At w b off l
  | .bx ls, .b id ls' => ls' = ls ∧ 0 < ls.length ∧ ∃ b, G.β id = some (b, ls.length) ∧ v = .pointer (some ⟨b, 0, none⟩)
  | .fn, .n => True
  | _, _ => False
def PlnsOk (sc : Bool) (G : Ghost) (w : World) : List PS → List Pln → List Value → Prop
  | [], [], [] => True
  | q :: qs, x :: xs, v :: vs => PlnOk sc G w q x v ∧ PlnsOk sc G w qs xs vs
  | _, _, _ => False
theorem PlnOk.moves {sc : Bool} {G' : Ghost} {q : PS} {x : Pln} {v : Value} (hm : Moves G w G') (h : PlnOk sc G w q x v) : PlnOk sc G' w q x v := by
  cases q with
  | v s =>
    cases s with
    | dat t =>
      cases x with
      | d d =>
        obtain ⟨y, e, hy⟩ := h
        refine ⟨y, e, ?_⟩
        cases sc with
        | true => exact RepV.mono (fun b hb hn => ⟨rfl, fun e => hn (hm.omr b hb e (by simp))⟩) hy
        | false => exact RepV.mono hm.free hy
      | t id s' => obtain ⟨_, h, _⟩ := h; cases h
      | _ => exact h.elim
    | _ => cases x <;> first | exact h.elim | (obtain ⟨e, h1, bs, h2⟩ := h; exact ⟨e, h1, bs, hm.Γ _ _ h2⟩)
  | mu s => cases x <;> first | exact h.elim | (obtain ⟨e, h1, bs, h2⟩ := h; exact ⟨e, h1, bs, hm.Γ _ _ h2⟩)
  | ep t =>
    cases x with
    | d d =>
      obtain ⟨y, b, off, l, e, hv, hb, hr, hat⟩ := h
      exact ⟨y, b, off, l, e, hv, (hm.free b hat.lt hb).2, hr.mono hm.free, hat⟩
    | _ => exact h.elim
  | bx ls =>
    cases x with
    | b id ls' =>
      obtain ⟨e, h0, b, hb, hv⟩ := h
      exact ⟨e, h0, b, hm.β _ _ hb, hv⟩
    | _ => exact h.elim
  | fn => cases x <;> first | exact h | exact h.elim
theorem PlnsOk.moves {sc : Bool} {G' : Ghost} (hm : Moves G w G') : ∀ {qs : List PS} {xs : List Pln} {vs : List Value}, PlnsOk sc G w qs xs vs → PlnsOk sc G' w qs xs vs
  | [], [], [], _ => trivial
  | q :: qs, x :: xs, v :: vs, h => ⟨h.1.moves hm, PlnsOk.moves hm h.2⟩
  | [], _ :: _, _, h => h.elim
  | [], [], _ :: _, h => h.elim
  | _ :: _, [], _, h => h.elim
  | _ :: _, _ :: _, [], h => h.elim
def Ghost.loose (G : Ghost) : Ghost := { G with ρ := fun b => match G.ρ b with | some .om => some .om | _ => none }
theorem loose_iff {b : Nat} : G.loose.O b ↔ G.ρ b = some .om := by
  show (match G.ρ b with | some .om => some Own.om | _ => none) ≠ none ↔ _
  cases h : G.ρ b with
  | none => simp
  | some o => cases o <;> simp
theorem loose_O {b : Nat} (h : ¬ G.O b) : ¬ G.loose.O b := fun h' => h (show G.ρ b ≠ none by rw [loose_iff.1 h']; simp)
theorem RepL.loose {l : Leaf Ω} {v : Value} (h : RepL C G w none l v) : RepL C G.loose w none l v := by
  cases l with
  | dat t x => exact RepC.mono (fun b _ h => ⟨rfl, loose_O h⟩) h
  | arr id e xs => obtain ⟨l, e, _⟩ := h; cases e
  | omp id k v m => obtain ⟨l, bs, e, _⟩ := h; cases e
  | eptr t x =>
    obtain ⟨b, off, l, e, hb, hr, hat⟩ := h
    exact ⟨b, off, l, e, loose_O hb, hr.mono (fun b _ h => ⟨rfl, loose_O h⟩), hat⟩
  | _ => exact h
theorem bothB_iff {a b : Bool} (h : bothB a b = true) : a = b := by cases a <;> cases b <;> first | rfl | cases h
def shaped : Bool → Value → Prop | true, v => ∃ vs, v = .agg vs | false, v => v.oneCell' = true
theorem repV_of {O : Nat → Prop} {t : Ty} {y : El t} {agg : Bool} {v : Value} (ha : agg = rowB t) (hv : shaped agg v) (h : RepC w O t y v.cells.toList) : RepV w O t y v := by
  subst ha
  unfold RepV Val
  cases hr : rowB t with
  | true =>
    rw [hr] at hv
    obtain ⟨vs, rfl⟩ := hv
    exact ⟨vs, rfl, h⟩
  | false =>
    rw [hr] at hv
    rw [cells_one hv] at h
    exact h
theorem shape_of {u : AV Ω} {v : Value} (h : RepAV C G w none u v) (hs : sizedV u = true) : shaped (aggV u) v := by
  cases u with
  | one l => exact noAgg_leaf (C := C) (G := G) (w := w) (at_ := none) h (live_ne hs)
  | agg ls => obtain ⟨vs, e, _⟩ := h; exact ⟨vs, e⟩
  | tup ps => cases hs
/-- A datum that is looked at: as it is in memory, whoever owns what. -/
theorem RepB.val {t : Ty} {u : AV Ω} {v : Value} {x : El t} (h : RepB C G w u v) (hf : fitsV u (width t) = true) (ha : bothB (aggV u) (rowB t) = true) (hp : packAll t (leavesOf u) = some x) : RepV w (fun b => G.ρ b = some .om) t x v := by
  obtain ⟨hs, hl⟩ := fitsV_iff hf
  have fin : RepAV C G.loose w none u v → RepV w (fun b => G.ρ b = some .om) t x v := fun h =>
    repV_of (bothB_iff ha) (shape_of h hs) ((packAll_rep hp (leaves_rep h hs)).mono fun b _ hn => ⟨rfl, fun e => hn (loose_iff.2 e)⟩)
  cases u with
  | one l =>
    have key : RepL C G.loose w none l v := by
      have h2 : (∃ t' y, l = .dat t' y) ∨ RepL C G w none l v := by
        cases l <;> first | exact .inr h | exact .inl ⟨_, _, rfl⟩
      rcases h2 with ⟨t', y, rfl⟩ | h2
      · have h' : RepC w (fun b => G.ρ b = some .om) t' y [v] := h
        exact (show RepC w G.loose.O t' y [v] from h'.mono fun b _ hn => ⟨rfl, fun e => hn (loose_iff.1 e)⟩)
      · exact h2.loose
    exact fin key
  | agg ls =>
    obtain ⟨vs, e, h⟩ := h
    exact fin ⟨vs, e, h.mono fun _ _ => RepL.loose⟩
  | tup ps => cases hs
/-- What has been taken waits at a place of its own. -/
theorem Rep.putComp (hr : Rep C G N used st a w) {t n : Nat} {u : AV Ω} {v : Value} (hu : RepAV1 C G w (some (.comp t n)) u v) : Rep C G N used ([(.comp t n, u)] ++ st) a w := by
  refine Rep.step (ws := [(.comp t n, u)]) hr (Step.refl' hr _) (fun l hl => ?_) (fun _ _ => rfl) hr.size hr.defers (fun _ _ _ h => .inl h) hr.usedΓ hr.usedβ
  have : l = .comp t n := by simpa [inL_iff] using hl
  subst this
  have e : S.get [(Loc.comp t n, u)] (.comp t n) = u := by simp [S.get, locB_self]
  rw [e]
  exact .inr ⟨v, hu⟩
theorem argP_runs {sc : Bool} {p : Nat} {q : PS} (hr : Rep C G N used st a w) {o : Operand} {v : AV Ω} {x : Value} (hv : RepAV C G w (opLoc o) v x) (hsrc : ∀ t, o = .tmp t → v = st.get (.tmp t))
    (h1 : ¬ used (rc, i, 1 + 2 * p)) (h2 : ¬ used (rc, i, 2 + 2 * p)) (hu : ∀ id, used id → used' id) (hn1 : used' (rc, i, 1 + 2 * p)) (hn2 : used' (rc, i, 2 + 2 * p)) {f : Pln → Prg Ω} (h : (argP sc rc i p q o v f).Runs st acc rs ws) :
    ∃ pl ws' ws2 acc' G1, ws = ws2 ++ ws' ∧ (f pl).Runs (ws' ++ st) acc' rs ws2 ∧ Moves G w G1 ∧ Rep C G1 N used' (ws' ++ st) a w ∧ PlnOk sc G1 w q pl x := by
  have same : ∀ {pl acc'}, (f pl).Runs st acc' rs ws → PlnOk sc G w q pl x → ∃ pl ws' ws2 acc' G1, ws = ws2 ++ ws' ∧ (f pl).Runs (ws' ++ st) acc' rs ws2 ∧ Moves G w G1 ∧ Rep C G1 N used' (ws' ++ st) a w ∧ PlnOk sc G1 w q pl x :=
    fun h k => ⟨_, [], ws, _, G, by simp, h, Step.refl' hr _, hr.mono hu, k⟩
  have take : ∀ {s : LS}, datS s = false → q = .v s → (takeV o (rc, i, 1 + 2 * p) v (takeK rc i p s f)).Runs st acc rs ws →
      ∃ pl ws' ws2 acc' G1, ws = ws2 ++ ws' ∧ (f pl).Runs (ws' ++ st) acc' rs ws2 ∧ Moves G w G1 ∧ Rep C G1 N used' (ws' ++ st) a w ∧ PlnOk sc G1 w q pl x := by
    intro s hs hq hk
    clear same h
    subst hq
    obtain ⟨u, ws', ws2, acc', G1, rfl, hk, hm, _, hr1, hu1⟩ := runs_take hr hv hsrc (goL rc i p) h1 (used' := fun id => used id ∨ id = (rc, i, 1 + 2 * p)) (fun _ h => .inl h) (.inr rfl) hk
    rename_i hk0 _
    clear hk0
    have hu2 : ∀ id, (fun id => used id ∨ id = (rc, i, 1 + 2 * p)) id → used' id := by
      rintro id (h | rfl)
      · exact hu _ h
      · exact hn1
    unfold takeK at hk
    split at hk
    · rename_i e id e' xs
      obtain ⟨_, _, hk2⟩ := runs_opt hk
      obtain ⟨ws3, rfl, hk3⟩ := hk2
      obtain ⟨l, el, ⟨bs, hΓ⟩, ha⟩ := hu1
      refine ⟨_, [(goL rc i p, .one (.arr id e' xs))] ++ ws', ws3, _, G1, by simp, by simpa using hk3, hm, by rw [List.append_assoc]; exact (hr1.putComp (u := .one (.arr id e' xs)) (v := x) ⟨l, el, ⟨bs, hΓ⟩, ha⟩).mono hu2, ?_⟩
      exact ⟨rfl, rfl, bs, hΓ⟩
    · rename_i e
      obtain ⟨ws3, rfl, hk3⟩ := hk
      have hx : x = .slice none 0 0 := hu1
      subst hx
      have hun : ¬ (fun id => used id ∨ id = (rc, i, 1 + 2 * p)) (rc, i, 2 + 2 * p) := by
        rintro (h | h)
        · exact h2 h
        · simp only [Prod.mk.injEq, true_and] at h; omega
      have hr2 := hr1.name hun (.slice none 0 0) [] (used' := used') hu2 hn2
      refine ⟨_, [(goL rc i p, .one (.arr (rc, i, 2 + 2 * p) e []))] ++ ws', ws3, _, _, by simp, by simpa using hk3, hm.moves (name_step hr1 hun (.slice none 0 0) [] _), by rw [List.append_assoc]; exact hr2.putComp (u := .one (.arr (rc, i, 2 + 2 * p) e [])) (v := .slice none 0 0) ⟨_, rfl, ⟨[], name_at⟩, .inl ⟨rfl, rfl⟩⟩, ?_⟩
      exact ⟨rfl, rfl, [], name_at⟩
    · rename_i a b id a' b' m
      obtain ⟨_, _, hk2⟩ := runs_opt hk
      obtain ⟨ws3, rfl, hk3⟩ := hk2
      obtain ⟨l, bs, el, hΓ, ha⟩ := hu1
      refine ⟨_, [(goL rc i p, .one (.omp id a' b' m))] ++ ws', ws3, _, G1, by simp, by simpa using hk3, hm, by rw [List.append_assoc]; exact (hr1.putComp (u := .one (.omp id a' b' m)) (v := x) ⟨l, bs, el, hΓ, ha⟩).mono hu2, ?_⟩
      exact ⟨rfl, rfl, bs, hΓ⟩
    · exact hk.elim
  cases q with
  | v s =>
    cases s with
    | dat t =>
      cases sc with
      | true =>
        have h' : Prg.Runs st (borrow v fun u => match and (fitsV u (width t)) (bothB (aggV u) (rowB t)) with
          | true => Prg.opt (packAll t (leavesOf u)) fun x => f (.d ⟨t, x⟩)
          | false => .fail) acc rs ws := h
        obtain ⟨u, acc2, h', hb⟩ := runs_borrow hr hv h'
        split at h'
        · rename_i hc
          rw [Bool.and_eq_true] at hc
          obtain ⟨y, hy, h'⟩ := runs_opt h'
          exact same h' ⟨y, rfl, hb.val hc.1 hc.2 hy⟩
        · exact h'.elim
      | false =>
        have h' : Prg.Runs st (freeze o v fun u => match and (fitsV u (width t)) (bothB (aggV u) (rowB t)) with
          | true => Prg.opt (packAll t (leavesOf u)) fun x => f (.d ⟨t, x⟩)
          | false => .fail) acc rs ws := h
        obtain ⟨u, ws', ws2, acc2, G1, rfl, h', hm, _, _, hr1, hu1, hn⟩ := runs_freeze hr hv hsrc h'
        split at h'
        · rename_i hc
          rw [Bool.and_eq_true] at hc
          obtain ⟨y, hy, h'⟩ := runs_opt h'
          obtain ⟨hs, _⟩ := fitsV_iff hc.1
          exact ⟨_, ws', ws2, _, G1, rfl, h', hm, hr1.mono hu, y, rfl, repV_of (bothB_iff hc.2) (shape_of hu1 hs) (packAll_rep hy (leaves_rep hu1 hs))⟩
        · exact h'.elim
    | arr e => exact take rfl rfl h
    | omp k m => exact take rfl rfl h
  | mu s =>
    cases s with
    | dat t => exact h.elim
    | arr e0 =>
      obtain ⟨l, id, e, xs, acc', h, hl, hΓ, _⟩ := arrG_runs hr (fun _ _ => ownLoc_rep hv) h
      exact same h ⟨rfl, rfl, hΓ⟩
    | omp k m =>
      obtain ⟨l, id, k', v', m', acc', bs, h, hl, hΓ, _⟩ := mapG_runs hr (fun _ _ => ownLoc_rep hv) h
      exact same h ⟨rfl, rfl, bs, hΓ⟩
  | ep t =>
    simp only [argP] at h
    split at h
    · obtain ⟨y, hy, h'⟩ := runs_opt h
      obtain ⟨b, off, l, e, hb, hrep, hat⟩ := hv
      exact same h' ⟨y, b, off, l, rfl, e, hb, packAll_rep (C := C) hy (unpack_rep hrep), hat⟩
    · exact h.elim
  | bx ls =>
    simp only [argP] at h
    split at h
    · rename_i id n
      split at h
      · rename_i hc
        rw [Bool.and_eq_true] at hc
        obtain rfl := Nat.eq_of_beq_eq_true hc.1
        obtain ⟨b, hb, e⟩ := hv
        exact same h ⟨rfl, Nat.le_of_ble_eq_true hc.2, b, hb, e⟩
      · exact h.elim
    · exact h.elim
  | fn =>
    simp only [argP] at h
    split at h
    · exact same h trivial
    · exact same h trivial
    · exact h.elim
end
end Go.Proofs.Ytbgefphoochgcaa.FE
