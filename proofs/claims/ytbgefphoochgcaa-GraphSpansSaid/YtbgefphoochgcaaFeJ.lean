/- FE, part 10: operations that change no memory: fields, elements, reads, lengths, parts. -/
import Derived.Test.YtbgefphoochgcaaFeI
namespace Go.Proofs.Ytbgefphoochgcaa.FE
open Go
set_option linter.unusedVariables false
set_option linter.unusedSimpArgs false
section
variable {Ω : Type} {C : CloRep Ω} {P : Program} {T : Tab} {N : Nat}
variable {rc i : Nat} {dst : Option Nat} {ty : Nat} {pos : String} {after : Array Edge} {guard : Option (Nat × Bool)}
variable {G : Ghost} {used : Id → Prop} {st ws : S Ω} {a : Act} {w : World} {acc rs : List Loc} {o : Oper} {K : Act → World → Prop} {Q : Exit → Act → World → Prop}

theorem live_ne {l : Leaf Ω} (h : liveL l = true) : l ≠ .dead := by intro e; subst e; cases h
theorem allLive_mem : ∀ {ls : List (Leaf Ω)}, allLive ls = true → ∀ l ∈ ls, l ≠ .dead
  | [], _, l, h => by cases h
  | x :: r, h, l, hl => by
    unfold allLive at h
    split at h
    · rename_i hx
      rcases List.mem_cons.1 hl with rfl | hl
      · exact live_ne hx
      · exact allLive_mem h l hl
    · cases h
theorem all2_one {ls : List (Leaf Ω)} {l : List Value} (h : All2 (RepL C G w none) ls l) (hl : ∀ x ∈ ls, x ≠ .dead) : ∀ v ∈ l, v.oneCell' = true := by
  induction h with
  | nil => intro v hv; cases hv
  | cons x _ ih =>
    intro v hv
    rcases List.mem_cons.1 hv with rfl | hv
    · exact noAgg_leaf x (hl _ List.mem_cons_self)
    · exact ih (fun y hy => hl y (List.mem_cons_of_mem _ hy)) v hv
theorem leaves_rep {u : AV Ω} {v : Value} (h : RepAV C G w none u v) (hs : sizedV u = true) : All2 (RepL C G w none) (leavesOf u) v.cells.toList := by
  cases u with
  | one l =>
    have h' : RepL C G w none l v := h
    rw [cells_one (noAgg_leaf h' (live_ne hs))]
    exact .cons h' .nil
  | agg ls => obtain ⟨vs, rfl, h⟩ := h; exact h
  | tup ps => cases hs
theorem leaves_one {u : AV Ω} {v : Value} (h : RepAV C G w none u v) (hs : sizedV u = true) : ∀ x ∈ v.cells.toList, x.oneCell' = true := by
  refine all2_one (leaves_rep h hs) ?_
  cases u with
  | one l => intro x hx; obtain rfl : x = l := by simpa [leavesOf] using hx
             exact live_ne hs
  | agg ls => exact allLive_mem hs
  | tup ps => cases hs
theorem fitsV_iff {u : AV Ω} {n : Nat} (h : fitsV u n = true) : sizedV u = true ∧ (leavesOf u).length = n := by
  simp only [fitsV, Bool.and_eq_true] at h
  exact ⟨h.1, Nat.eq_of_beq_eq_true h.2⟩
theorem sized_dat {t : Ty} {x : El t} : sizedV (.one (.dat t x) : AV Ω) = true := rfl
theorem avOf_rep {g : Bool} {ls : List (Leaf Ω)} {l : List Value} (h : All2 (RepL C G w none) ls l) {v : Value} (hv : match g with | true => v = .agg l.toArray | false => l = [v]) : RepAV C G w none (avOf g ls) v := by
  cases g with
  | true => obtain rfl := hv; exact ⟨l.toArray, rfl, by simpa using h⟩
  | false =>
    have hv' : l = [v] := hv
    subst hv'
    cases h with
    | cons h t => cases t; exact h
theorem noOwn_avOf {g : Bool} {ls : List (Leaf Ω)} {l : List Value} (h : All2 (RepL C G w none) ls l) : noOwn (avOf g ls) := by
  cases g with
  | true => trivial
  | false =>
    cases h with
    | nil => trivial
    | cons h t => cases t with
      | nil => exact noOwn_of (u := .one _) (C := C) (G := G) (w := w) h
      | cons _ _ => trivial
theorem cellsOf_info {t : Nat} (h : 0 < P.cellsOf t) : ∃ j, P.info? t = some j ∧ j.size ≠ 0 := by
  unfold Program.cellsOf at h
  cases hi : P.info? t with
  | none => simp [hi] at h
  | some j => simp [hi] at h; exact ⟨j, rfl, by omega⟩
theorem run_fieldAt (hT : TabOk P T) {s f : Nat} {ti : TI} (hti : T.get s = some ti) {fs : List (Nat × Nat)} (hk : ti.kind = .st fs) {p : Nat × Nat} (hp : fs[f]? = some p) (b off : Nat) :
    (Instr.fieldAt s (.pointer (some ⟨b, off, none⟩)) f).run P w = .ok (.pointer (some ⟨b, off + p.1, none⟩)) w := by
  obtain ⟨gs, hu, hf⟩ := hT.st hti hk
  obtain ⟨fl, h1, h2, h3, h4⟩ := fieldsB_get hf hp
  obtain ⟨j, hj, hz⟩ := cellsOf_info h4
  have h1' : gs[f]? = some fl := by simpa using h1
  simp [Instr.fieldAt, run_underlying hu, h1', Instr.sureAddr, fieldPlace, sizeOf, typeInfo, hj, hz, h2, add_none]
theorem run_fieldAddr (hT : TabOk P T) {s f : Nat} {ti : TI} (hti : T.get s = some ti) {fs : List (Nat × Nat)} (hk : ti.kind = .st fs) {p : Nat × Nat} (hp : fs[f]? = some p) {b off : Nat} {x : Operand} (e : a.eval x = .pointer (some ⟨b, off, none⟩)) :
    (execOp a.eval ⟨dst, .fieldAddr s x f, ty, pos, after, guard⟩).run P w = .ok (.value (.pointer (some ⟨b, off + p.1, none⟩))) w := by
  simp [execOp, e, run_fieldAt hT hti hk hp]
theorem At.sub {b off : Nat} {l : List Value} (h : At w b off l) (k n : Nat) : At w b (off + k) ((l.drop k).take n) := by
  obtain ⟨c, el, fz, hh, hc⟩ := h
  refine ⟨c, el, fz, hh, fun i v hi => ?_⟩
  have : l[k + i]? = some v := by
    rw [List.getElem?_take] at hi
    split at hi
    · rwa [List.getElem?_drop] at hi
    · cases hi
  rw [Nat.add_assoc]
  exact hc _ _ this
theorem ok_fieldAddr (hT : TabOk P T) {s f : Nat} {x : Operand} (hd : ∀ d, dst = some d → d < N) : OpOk P C N rc i ⟨dst, .fieldAddr s x f, ty, pos, after, guard⟩
    (Prg.opt (T.get s) fun ti => (match ti.kind with
      | .st fs => Prg.opt (fs[f]?) fun p => opG x fun v => (match v with
        | .one (.ref b off n) => putP ⟨dst, .fieldAddr s x f, ty, pos, after, guard⟩ (.one (.ref b (off + p.1) n))
        | .one (.aptr l id sz n off) => putP ⟨dst, .fieldAddr s x f, ty, pos, after, guard⟩ (.one (.aptr l id sz n (off + p.1)))
        | .one (.eptr t y) => Prg.opt (T.get p.2) fun fi => Prg.opt (packAll fi.ty (((unpack (Ω := Ω) t y).drop p.1).take fi.size)) fun z => putP ⟨dst, .fieldAddr s x f, ty, pos, after, guard⟩ (.one (.eptr fi.ty z))
        | _ => .fail)
      | _ => .fail)) := by
  intro G used st a w acc rs ws hr hf h K Q hK
  obtain ⟨ti, hti, h⟩ := runs_opt h
  split at h
  · rename_i fs hk
    obtain ⟨p, hp, h⟩ := runs_opt h
    obtain ⟨v, acc1, h, hv, -⟩ := runs_opG hr h
    split at h
    · obtain ⟨b, hb, e⟩ := hv
      exact fin_any hd hr hK h trivial (run_fieldAddr hT hti hk hp e) ⟨b, hb, rfl⟩
    · obtain ⟨b, o', len, cap, bs, h1, h2, h3, e⟩ := hv
      refine fin_any hd hr hK h trivial (run_fieldAddr hT hti hk hp e) ⟨b, o', len, cap, bs, h1, h2, h3, ?_⟩
      simp only [Nat.add_assoc]
    · obtain ⟨fi, hfi, h⟩ := runs_opt h
      obtain ⟨z, hz, h⟩ := runs_opt h
      obtain ⟨b, off, l, e, hb, hc, hat⟩ := hv
      have hz' := packAll_rep (C := C) hz (((unpack_rep (C := C) hc).drop p.1).take fi.size)
      exact fin_any hd hr hK h trivial (run_fieldAddr hT hti hk hp e) ⟨b, off + p.1, _, rfl, hb, hz', hat.sub _ _⟩
    · exact h.elim
  · exact h.elim
theorem idx_some {α : Type} {xs : List α} {n : Int} {y : α} (h : idx xs n = some y) : 0 ≤ n ∧ ∃ h : n.toNat < xs.length, y = xs[n.toNat] := by
  unfold idx at h
  split at h
  · rename_i e
    obtain ⟨h1, h2⟩ := List.getElem?_eq_some_iff.1 h
    exact ⟨of_decide_eq_true e, h1, h2.symm⟩
  · cases h
theorem run_indexAt (hT : TabOk P T) {t : Nat} {ti : TI} (hti : T.get t = some ti) {e : Nat} (hk : ti.kind = .sl e) {E : Ty} (hE : ti.ty = .sl E) {b off len cap : Nat} {k : IntKind} {n : Int} (h0 : 0 ≤ n) (h1 : n.toNat < len) :
    (Instr.indexAt t (.slice (some ⟨b, off, none⟩) len cap) (.int k n)).run P w = .ok (.pointer (some ⟨b, off + n.toNat * width E, none⟩)) w := by
  obtain ⟨hu, hz⟩ := hT.sl hti hk
  obtain ⟨j, z, hj, hs, _⟩ := zeroB_spec (hz E hE)
  have hlt : n < (len : Int) := by omega
  simp [Instr.indexAt, run_underlying hu, asIntOf, h0, hlt, sizeOf, typeInfo, hj, hs, add_none]
theorem run_indexAddr (hT : TabOk P T) {t : Nat} {ti : TI} (hti : T.get t = some ti) {e : Nat} (hk : ti.kind = .sl e) {E : Ty} (hE : ti.ty = .sl E) {b off len cap : Nat} {k : IntKind} {n : Int} (h0 : 0 ≤ n) (h1 : n.toNat < len) {x ix : Operand}
    (ex : a.eval x = .slice (some ⟨b, off, none⟩) len cap) (ei : a.eval ix = .int k n) :
    (execOp a.eval ⟨dst, .indexAddr t x ix, ty, pos, after, guard⟩).run P w = .ok (.value (.pointer (some ⟨b, off + n.toNat * width E, none⟩))) w := by
  simp [execOp, ex, ei, run_indexAt hT hti hk hE h0 h1]
theorem ownLoc_rep {o : Operand} {v : AV Ω} {x : Value} {at_ : Option Loc} (hv : RepAV C G w at_ v x) {l : Loc} {id : Id} (h : ownLoc o v = some (l, id)) : ∃ bs, G.Γ id = some (x, bs) := by
  unfold ownLoc at h
  split at h
  · cases h; exact hv.1
  · cases h; obtain ⟨l', bs, _, hΓ, _⟩ := hv; exact ⟨bs, hΓ⟩
  · cases h; obtain ⟨l', _, hΓ, _⟩ := hv; exact hΓ
  · cases h
theorem arrG_runs (hr : Rep C G N used st a w) {o : Operand} {v : AV Ω} {x : Value} (hv : ∀ l id, ownLoc o v = some (l, id) → ∃ bs, G.Γ id = some (x, bs))
    {f : Loc → Id → (e : Ty) → List (El e) → Prg Ω} (h : (arrG o v f).Runs st acc rs ws) :
    ∃ l id e xs acc', (f l id e xs).Runs st acc' rs ws ∧ st.get l = .one (.arr id e xs) ∧ (∃ bs, G.Γ id = some (x, bs)) ∧ ArrRep G.ρ w (.at_ l) e xs x := by
  unfold arrG at h
  split at h
  · rename_i l id ho
    have hΓ := hv l id ho
    have h' : Prg.Runs st (match st.get l with
      | .one (.arr id' e xs) => (match idB id id' with | true => f l id' e xs | false => .fail)
      | _ => .fail) (l :: acc) rs ws := h
    split at h'
    · rename_i id' e xs hl
      split at h'
      · rename_i hid
        have ha := ali_arr hr hΓ hl hid
        obtain rfl := idB_iff.1 hid
        exact ⟨_, _, _, _, _, h', hl, hΓ, ha⟩
      · exact h'.elim
    · exact h'.elim
  · exact h.elim
theorem mapG_runs (hr : Rep C G N used st a w) {o : Operand} {v : AV Ω} {x : Value} (hv : ∀ l id, ownLoc o v = some (l, id) → ∃ bs, G.Γ id = some (x, bs))
    {f : Loc → Id → (k v : Ty) → List (El k × El v) → Prg Ω} (h : (mapG o v f).Runs st acc rs ws) :
    ∃ l id k v m acc' bs, (f l id k v m).Runs st acc' rs ws ∧ st.get l = .one (.omp id k v m) ∧ G.Γ id = some (x, bs) ∧ MapRep G.ρ w (.at_ l) k v m x bs := by
  unfold mapG at h
  split at h
  · rename_i l id ho
    obtain ⟨bs, hΓ⟩ := hv l id ho
    have h' : Prg.Runs st (match st.get l with
      | .one (.omp id' k v m) => (match idB id id' with | true => f l id' k v m | false => .fail)
      | _ => .fail) (l :: acc) rs ws := h
    split at h'
    · rename_i id' k v m hl
      split at h'
      · rename_i hid
        have ha := ali_omp hr hΓ hl hid
        obtain rfl := idB_iff.1 hid
        exact ⟨_, _, _, _, _, _, bs, h', hl, hΓ, ha⟩
      · exact h'.elim
    · exact h'.elim
  · exact h.elim
theorem ok_indexAddr (hT : TabOk P T) {t : Nat} {x ix : Operand} (hd : ∀ d, dst = some d → d < N) : OpOk P C N rc i ⟨dst, .indexAddr t x ix, ty, pos, after, guard⟩
    (Prg.opt (T.get t) fun ti => (match ti.kind, ti.ty with
      | .sl _, .sl E => opG x fun v => opG ix fun w => intOf w fun n => (match v with
        | .one (.dat (.sl e) xs) => (match Nat.beq (width E) (width e) with | true => .bind (idx xs n) fun y => putP ⟨dst, .indexAddr t x ix, ty, pos, after, guard⟩ (.one (.eptr e y)) | false => .fail)
        | v => arrG x v fun l id e xs => (match Nat.beq (width E) (width e) with | true => .bind (idx xs n) fun _ => putP ⟨dst, .indexAddr t x ix, ty, pos, after, guard⟩ (.one (.aptr l id (width e) n 0)) | false => .fail))
      | _, _ => .fail)) := by
  intro G used st a w acc rs ws hr hf h K Q hK
  obtain ⟨ti, hti, h⟩ := runs_opt h
  split at h
  · rename_i e0 E hk hE
    obtain ⟨v, acc1, h, hv, hs⟩ := runs_opG hr h
    obtain ⟨vi, acc2, h, hi, -⟩ := runs_opG hr h
    obtain ⟨k, n, rfl, h⟩ := intOf_runs h
    have ei := dat_int hi
    split at h
    · split at h
      · rename_i hw
        have hw := Nat.eq_of_beq_eq_true hw
        obtain ⟨y, hy, h⟩ := h
        obtain ⟨h0, h1, rfl⟩ := idx_some hy
        obtain ⟨ad, cap, ev, hcap, hx⟩ := hv
        obtain ⟨b, off, rfl, hb, hx⟩ := hx (by intro e; subst e; simp at h1)
        obtain ⟨l, hr', hat⟩ := hx _ h1
        have ex := (List.cons.inj ev).1
        exact fin_any hd hr hK h trivial (run_indexAddr hT hti hk hE h0 h1 ex ei) ⟨b, _, l, rfl, hb, hr', by rw [hw]; exact hat⟩
      · exact h.elim
    · obtain ⟨l, id, e, xs, acc3, h, hl, ⟨bs, hΓ⟩, ha⟩ := arrG_runs hr (fun _ _ => ownLoc_rep hv) h
      split at h
      · rename_i hw
        have hw := Nat.eq_of_beq_eq_true hw
        obtain ⟨y, hy, h⟩ := h
        obtain ⟨h0, h1, rfl⟩ := idx_some hy
        rcases ha with ⟨rfl, _⟩ | ⟨b, off, cap, c, el, ex, hcap, hb, hh, hsz, hx⟩
        · simp at h1
        · refine fin_any hd hr hK h trivial (run_indexAddr hT hti hk hE h0 h1 ex ei) ⟨b, off, xs.length, cap, bs, by rw [hΓ, ex], h0, by omega, ?_⟩
          rw [hw, Nat.add_zero]
      · exact h.elim
  · exact h.elim
/-! ### reads -/
theorem At.cell {b off : Nat} {l : List Value} (h : At w b off l) {i : Nat} {v : Value} (hi : l[i]? = some v) : w.cell? ⟨b, off + i, none⟩ = some v := by
  obtain ⟨c, el, fz, hh, hc⟩ := h
  simp [World.cell?, hh, hc _ _ hi]
theorem run_loadVar (hT : TabOk P T) {t : Nat} {ti : TI} (hti : T.get t = some ti) {b off : Nat} {l : List Value} (hl : l.length = ti.size) (hc : ∀ i v, l[i]? = some v → w.cell? ⟨b, off + i, none⟩ = some v) (h1 : isSt ti.kind = false → l.length = 1) :
    ∃ v, (loadVar t ⟨b, off, none⟩).run P w = .ok v w ∧ (match isSt ti.kind with | true => v = .agg l.toArray | false => l = [v]) := by
  obtain ⟨d, hu, hd⟩ := hT.agg hti
  obtain ⟨j, hj, hs⟩ := hT.info hti
  have hagg : (isAgg t).run P w = .ok (isSt ti.kind) w := by
    rw [← hd]
    cases d <;> simp [isAgg, run_underlying hu]
  cases hk : isSt ti.kind with
  | true =>
    have hll := run_loadCells_list (P := P) w ⟨b, off, none⟩ l (fun i v hi => by rw [add_none]; exact hc i v hi)
    exact ⟨.agg l.toArray, by simp [loadVar, hagg, hk, sizeOf, typeInfo, hj, hs, ← hl, hll], rfl⟩
  | false =>
    match l, h1 hk with
    | [v], _ =>
      have := hc 0 v rfl
      rw [Nat.add_zero] at this
      exact ⟨v, by simp [loadVar, hagg, hk, this] , rfl⟩
theorem run_load {t : Nat} {x : Operand} {b off : Nat} (e : a.eval x = .pointer (some ⟨b, off, none⟩)) {v : Value} (h : (loadVar t ⟨b, off, none⟩).run P w = .ok v w) :
    (execOp a.eval ⟨dst, .load t x, ty, pos, after, guard⟩).run P w = .ok (.value v) w := by
  simp [execOp, e, Instr.loadAt, Instr.sureAddr, h]
/-- What a box's leaves stand for, looked at. -/
theorem getN_runs (hr : Rep C G N used st a w) {id : Id} {b nb : Nat} (hb : G.β id = some (b, nb)) : ∀ (n j : Nat) {f : List (Leaf Ω) → Prg Ω} {acc : List Loc}, (getN id j n f).Runs st acc rs ws →
    ∃ ls acc' l, (f ls).Runs st acc' rs ws ∧ ls.length = n ∧ All2 (RepL C G w none) ls l ∧ ∀ k v, l[k]? = some v → w.cell? ⟨b, j + k, none⟩ = some v := by
  intro n
  induction n with
  | zero => intro j f acc h; exact ⟨[], acc, [], h, rfl, .nil, fun k v hk => by simp at hk⟩
  | succ n ih =>
    intro j f acc h
    have hat := hr.at_ (.box id j)
    have h' : Prg.Runs st (match st.get (.box id j) with
      | .one (.arr id' _ _) => getN id (j + 1) n fun ls => f (.ali (.box id j) id' :: ls)
      | .one (.omp id' _ _ _) => getN id (j + 1) n fun ls => f (.ali (.box id j) id' :: ls)
      | .one .dead => .fail
      | .one l => getN id (j + 1) n fun ls => f (l :: ls)
      | _ => .fail) (.box id j :: acc) rs ws := h
    generalize hg : st.get (.box id j) = u at hat h'
    have fin : ∀ (y : Leaf Ω) (v : Value), (getN id (j + 1) n fun ls => f (y :: ls)).Runs st (.box id j :: acc) rs ws → w.cell? ⟨b, j, none⟩ = some v → RepL C G w none y v →
        ∃ ls acc' l, (f ls).Runs st acc' rs ws ∧ ls.length = n + 1 ∧ All2 (RepL C G w none) ls l ∧ ∀ k v, l[k]? = some v → w.cell? ⟨b, j + k, none⟩ = some v := by
      intro y v h hc hy
      obtain ⟨ls, acc', l, h2, hlen, hx, hcs⟩ := ih (j + 1) h
      refine ⟨y :: ls, acc', v :: l, h2, by simp [hlen], .cons hy hx, fun k u hk => ?_⟩
      cases k with
      | zero => obtain rfl : v = u := by simpa using hk
                exact hc
      | succ k => rw [show j + (k + 1) = j + 1 + k by omega]; exact hcs k u (by simpa using hk)
    cases u with
    | one lf =>
      rcases hat with hdead | ⟨b', n', v, hb', hcell, hrep⟩
      · cases hdead; exact h'.elim
      · rw [hb] at hb'
        cases hb'
        cases lf with
        | arr id' e xs =>
          obtain ⟨l', e1, e2, h⟩ := hrep
          exact fin (.ali (.box id j) id') v h' hcell ⟨e2, by obtain ⟨ad, cap, rfl, _⟩ := h.header; rfl⟩
        | omp id' k vt m =>
          obtain ⟨l', bs, e1, e2, h⟩ := hrep
          exact fin (.ali (.box id j) id') v h' hcell ⟨⟨bs, e2⟩, by obtain ⟨b, es, clock, rfl, _⟩ := h; rfl⟩
        | dead => exact h'.elim
        | opq s => exact hrep.elim
        | _ => exact fin _ v h' hcell hrep
    | agg ls' => exact h'.elim
    | tup ps => exact h'.elim
theorem ok_load (hT : TabOk P T) {t : Nat} {x : Operand} (hd : ∀ d, dst = some d → d < N) : OpOk P C N rc i ⟨dst, .load t x, ty, pos, after, guard⟩
    (Prg.opt (T.get t) fun ti => opG x fun v => (match v with
      | .one (.ref b off _) => getN b off ti.size fun ls => (match loadB ti ls with | true => putP ⟨dst, .load t x, ty, pos, after, guard⟩ (avOf (isSt ti.kind) ls) | false => .fail)
      | .one (.eptr r y) => (match loadB ti (unpack (Ω := Ω) r y) with
        | true => putP ⟨dst, .load t x, ty, pos, after, guard⟩ (avOf (isSt ti.kind) (unpack r y))
        | false => .fail)
      | .one (.aptr l id sz n off) => .get l fun u => (match u with
        | .one (.arr id' e xs) => (match and (idB id id') (Nat.beq sz (width e)) with
          | true => .bind (idx xs n) fun y => (match loadB ti (((unpack (Ω := Ω) e y).drop off).take ti.size) with
            | true => putP ⟨dst, .load t x, ty, pos, after, guard⟩ (avOf (isSt ti.kind) (((unpack e y).drop off).take ti.size))
            | false => .fail)
          | false => .fail)
        | _ => .fail)
      | _ => .fail)) := by
  intro G used st a w acc rs ws hr hf h K Q hK
  obtain ⟨ti, hti, h⟩ := runs_opt h
  obtain ⟨v, acc1, h, hv, -⟩ := runs_opG hr h
  have fin : ∀ {b off : Nat} {ls : List (Leaf Ω)} {l : List Value} {acc : List Loc}, a.eval x = .pointer (some ⟨b, off, none⟩) → loadB ti ls = true → All2 (RepL C G w none) ls l → (∀ k v, l[k]? = some v → w.cell? ⟨b, off + k, none⟩ = some v) →
      (putP ⟨dst, .load t x, ty, pos, after, guard⟩ (avOf (isSt ti.kind) ls)).Runs st acc rs ws → (⟨dst, .load t x, ty, pos, after, guard⟩ : Oper).wp P a w K Q := by
    intro b off ls l acc e hb ha hc h
    have hlen := ha.length
    simp only [loadB, Bool.and_eq_true, Bool.or_eq_true] at hb
    have h1 := Nat.eq_of_beq_eq_true hb.1
    obtain ⟨u, hu, hag⟩ := run_loadVar hT hti (b := b) (off := off) (l := l) (by omega) hc (fun h => by
      rcases hb.2 with h2 | h2
      · rw [h] at h2; cases h2
      · have := Nat.eq_of_beq_eq_true h2; omega)
    exact fin_any hd hr hK h (noOwn_avOf ha) (run_load e hu) (avOf_rep ha hag)
  split at h
  · obtain ⟨b, hb, e⟩ := hv
    obtain ⟨ls, acc2, l, h, hlen, hx, hc⟩ := getN_runs hr hb _ _ h
    split at h
    · exact fin e ‹_› hx hc h
    · exact h.elim
  · obtain ⟨b, off, l, e, hb, hc, hat⟩ := hv
    split at h
    · exact fin e ‹_› (unpack_rep hc) (fun k v hk => hat.cell hk) h
    · exact h.elim
  · rename_i l id sz n off
    obtain ⟨b, o', len, cap, bs, hΓ, h0, h1, e⟩ := hv
    have h' : Prg.Runs st (match st.get l with
      | .one (.arr id' e xs) => (match and (idB id id') (Nat.beq sz (width e)) with
        | true => .bind (idx xs n) fun y => (match loadB ti (((unpack (Ω := Ω) e y).drop off).take ti.size) with
          | true => putP ⟨dst, .load t x, ty, pos, after, guard⟩ (avOf (isSt ti.kind) (((unpack e y).drop off).take ti.size))
          | false => .fail)
        | false => .fail)
      | _ => .fail) (l :: acc1) rs ws := h
    split at h'
    · rename_i id' e' xs hl
      split at h'
      · rename_i hid
        rw [Bool.and_eq_true] at hid
        obtain rfl := Nat.eq_of_beq_eq_true hid.2
        obtain ⟨y, hy, h'⟩ := h'
        obtain ⟨h2, h3, rfl⟩ := idx_some hy
        have ha := ali_arr hr ⟨bs, hΓ⟩ hl hid.1
        rcases ha with ⟨rfl, _⟩ | ⟨b2, off2, cap2, c, el, ex, hcap, hb2, hh, hsz, hx⟩
        · simp at h3
        · cases ex
          obtain ⟨vs, hrv, hat⟩ := hx _ h3
          simp only [] at h'
          split at h'
          · refine fin e ‹_› (((unpack_rep hrv).drop off).take ti.size) (fun k v hk => ?_) h'
            have hsub := (At.sub (w := w) (b := b) (off := o' + n.toNat * width e') (l := vs) ⟨c, el, _, hh, hat⟩ off ti.size).cell hk
            exact hsub
          · exact h'.elim
      · exact h'.elim
    · exact h'.elim
  · exact h.elim
end
end Go.Proofs.Ytbgefphoochgcaa.FE
