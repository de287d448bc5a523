/- FE, part 18: make of slices; append. -/
import Derived.Test.YtbgefphoochgcaaFeQ
import Derived.Laws.MakeOwn
import Derived.Laws.AppendOwn
namespace Go.Proofs.Ytbgefphoochgcaa.FE
open Go
set_option linter.unusedVariables false
set_option linter.unusedSimpArgs false
section
variable {Ω : Type} {C : CloRep Ω} {P : Program} {T : Tab} {N : Nat}
variable {rc i : Nat} {dst : Option Nat} {ty : Nat} {pos : String} {after : Array Edge} {guard : Option (Nat × Bool)}
variable {G : Ghost} {used used' : Id → Prop} {st ws : S Ω} {a : Act} {w w' : World} {acc rs : List Loc} {o : Oper} {K : Act → World → Prop} {Q : Exit → Act → World → Prop}

theorem runs_ite {b : Bool} {p q : Prg Ω} (h : (Prg.ite b p q).Runs st acc rs ws) : (b = true ∧ p.Runs st acc rs ws) ∨ (b = false ∧ q.Runs st acc rs ws) := by
  cases b with
  | true => exact .inl ⟨rfl, h⟩
  | false => exact .inr ⟨rfl, h⟩
theorem ok_makeSlice (hT : TabOk P T) {t : Nat} {l c : Operand} {own : Bool} (hd : ∀ d, dst = some d → d < N) : OpOk P C N rc i ⟨dst, .makeSlice t l c, ty, pos, after, guard⟩
    (Prg.opt (T.get t) fun ti => (match ti.kind, ti.ty with
      | .sl _, .sl e => opG l fun vl => intOf vl fun n => opG c fun vc => intOf vc fun m =>
          .ite (and (decide (0 ≤ n)) (and (decide (n ≤ m)) (limB m.toNat))) (putS ⟨dst, .makeSlice t l c, ty, pos, after, guard⟩ own (rc, i, 0) e (List.replicate n.toNat (zeroEl e))) .fail
      | _, _ => .fail)) := by
  intro G used st a w acc rs ws hr hf h K Q hK
  obtain ⟨ti, hti, h⟩ := runs_opt h
  split at h
  · rename_i et e hk hty
    obtain ⟨hu, hz⟩ := hT.sl hti hk
    obtain ⟨j, z, hj, hjs, hjb, hjz, hzc, _⟩ := zeroB_spec (hz e hty)
    obtain ⟨vl, acc1, h, hvl, -⟩ := runs_opG hr h
    obtain ⟨kl, n, rfl, h⟩ := intOf_runs h
    obtain ⟨vc, acc2, h, hvc, -⟩ := runs_opG hr h
    obtain ⟨kc, m, rfl, h⟩ := intOf_runs h
    have el := dat_int hvl
    have ec := dat_int hvc
    rcases runs_ite h with ⟨hb, h⟩ | ⟨_, h⟩
    · simp only [Bool.and_eq_true, decide_eq_true_eq, limB, LIM] at hb
      obtain ⟨h0, hnm, hm⟩ := hb
      have hm := of_decide_eq_true hm
      obtain ⟨d, hdst, rfl⟩ := runs_putS h
      obtain rfl : dst = some d := hdst
      have hbytes : (j.bytes : Int) * m ≤ 281474976710656 := by
        have h1 : j.bytes * m.toNat ≤ 2048 * 68719476736 := Nat.mul_le_mul hjb hm
        have h2 : (j.bytes : Int) * m = ((j.bytes * m.toNat : Nat) : Int) := by
          rw [Int.natCast_mul, Int.toNat_of_nonneg (by omega)]
        omega
      have hrun := run_make (P := P) w t et j z hu hj hjz kl kc n m h0 hnm hbytes (by omega)
      have hp := Pushed.alloc w (.cells (madeCells z.cells (m.toNat * j.size)) et)
      have hzs : z.cells.size = width e := by
        have := congrArg List.length hzc
        rw [Array.length_toList] at this
        rw [this, RepC_len (RepC_zero (w := w) (O := fun _ => False) e)]
      obtain ⟨G', hfr, hrep⟩ := fin_newSlice (used' := usedAt used rc i) hr (hf 0) (fun _ h => .inl h) (.inr ⟨0, rfl⟩) (hd d rfl) hp (e := e) (ys := List.replicate n.toNat (zeroEl e)) (cap := m.toNat) (by rw [List.length_replicate]; omega) (by rw [size_madeCells, hjs]; omega) (fun k hk => by
        refine ⟨zeroCells e, by rw [List.getElem_replicate]; exact RepC_zero e, fun i v hi => ?_⟩
        rw [List.length_replicate] at hk
        have hi' : i < width e := by
          have := (List.getElem?_eq_some_iff.1 hi).1
          rw [RepC_len (RepC_zero (w := w) (O := fun _ => False) e)] at this
          exact this
        have hlt : k * width e + i < m.toNat * j.size := by
          rw [hjs]
          have h1 : (k + 1) * width e ≤ m.toNat * width e := Nat.mul_le_mul_right _ (by omega)
          rw [Nat.add_mul, Nat.one_mul] at h1
          omega
        have hmod : (k * width e + i) % z.cells.size = i := by
          rw [hzs, Nat.mul_comm, Nat.mul_add_mod, Nat.mod_eq_of_lt hi']
        have hzi : z.cells[i]? = some v := by rw [← Array.getElem?_toList, hzc]; exact hi
        have hg : z.cells[i]! = v := by rw [getElem!_def, hzi]
        simp [madeCells, hlt, hmod, hg]) own
      rw [List.length_replicate] at hrep
      exact wp_value (by simp [execOp, el, ec, hrun]) (hK _ _ _ hfr hrep)
    · exact h.elim
  · exact h.elim

/-! ### append -/
theorem RepC_one {O : Nat → Prop} : ∀ {t : Ty} {x : El t} {u : List Value}, RepC w O t x u → ∀ v ∈ u, v.oneCell' = true := by
  intro t
  induction t with
  | pair a b ha hb =>
    rintro x u ⟨l, r, rfl, h1, h2⟩ v hv
    rcases List.mem_append.1 hv with hv | hv
    · exact ha h1 v hv
    · exact hb h2 v hv
  | st r ih => intro x u h v hv; exact ih h v hv
  | sl e _ => rintro x u ⟨ad, cap, rfl, _⟩ v hv; obtain rfl : v = _ := by simpa using hv
              rfl
  | mp k v _ _ => rintro x u ⟨r, rfl, _⟩ v hv; obtain rfl : v = _ := by simpa using hv
                  rfl
  | pt t _ =>
    rintro x u (⟨_, rfl⟩ | ⟨y, b, off, l, _, rfl, _⟩) v hv
    · obtain rfl : v = _ := by simpa using hv
      rfl
    · obtain rfl : v = _ := by simpa using hv
      rfl
  | unit => rintro x u rfl v hv; cases hv
  | _ => rintro x u rfl v hv; obtain rfl : v = _ := by simpa using hv
         rfl
/-- Cells in a row, for a list of elements. -/
structure Flat (w : World) (O : Nat → Prop) (e : Ty) (ys : List (El e)) (L : List Value) : Prop where
  len : L.length = ys.length * width e
  el : ∀ j (h : j < ys.length), ∃ vs, RepC w O e ys[j] vs ∧ ∀ i v, vs[i]? = some v → L[j * width e + i]? = some v
  one : ∀ v ∈ L, v.oneCell' = true
theorem Flat.mono {O O' : Nat → Prop} {e : Ty} {ys : List (El e)} {L : List Value} (h : Flat w O e ys L) (hf : Free w O w' O') : Flat w' O' e ys L :=
  ⟨h.len, fun j hj => let ⟨vs, h1, h2⟩ := h.el j hj; ⟨vs, h1.mono hf, h2⟩, h.one⟩
theorem Flat.append {O : Nat → Prop} {e : Ty} {xs ys : List (El e)} {L M : List Value} (h : Flat w O e xs L) (k : Flat w O e ys M) : Flat w O e (xs ++ ys) (L ++ M) where
  len := by rw [List.length_append, List.length_append, h.len, k.len, Nat.add_mul]
  el j hj := by
    rw [List.length_append] at hj
    by_cases hx : j < xs.length
    · obtain ⟨vs, h1, h2⟩ := h.el j hx
      refine ⟨vs, by rw [List.getElem_append_left hx]; exact h1, fun i v hi => ?_⟩
      have := h2 i v hi
      rw [List.getElem?_append_left (List.getElem?_eq_some_iff.1 this).1]
      exact this
    · obtain ⟨vs, h1, h2⟩ := k.el (j - xs.length) (by omega)
      refine ⟨vs, by rw [List.getElem_append_right (by omega)]; exact h1, fun i v hi => ?_⟩
      have := h2 i v hi
      have e1 : j * width e = xs.length * width e + (j - xs.length) * width e := by
        rw [← Nat.add_mul]; congr 1; omega
      rw [List.getElem?_append_right (by rw [h.len]; omega), h.len, show j * width e + i - xs.length * width e = (j - xs.length) * width e + i by omega]
      exact this
  one v hv := by
    rcases List.mem_append.1 hv with h' | h'
    · exact h.one v h'
    · exact k.one v h'
theorem flat_of {O : Nat → Prop} {e : Ty} (f : Nat → Option Value) : ∀ (ys : List (El e)) (off : Nat), (∀ j (h : j < ys.length), ∃ l, RepC w O e ys[j] l ∧ ∀ i v, l[i]? = some v → f (off + j * width e + i) = some v) →
    ∃ L, Flat w O e ys L ∧ ∀ i v, L[i]? = some v → f (off + i) = some v
  | [], off, _ => ⟨[], ⟨by simp, fun j hj => by simp at hj, fun v hv => by cases hv⟩, fun i v hi => by simp at hi⟩
  | y :: ys, off, h => by
    obtain ⟨l, h1, h2⟩ := h 0 (by simp)
    obtain ⟨L, h3, h4⟩ := flat_of f ys (off + width e) (fun j hj => by
      obtain ⟨l, h1, h2⟩ := h (j + 1) (by simp; omega)
      exact ⟨l, h1, fun i v hi => by have := h2 i v hi; rwa [Nat.add_mul, Nat.one_mul, show off + (j * width e + width e) + i = off + width e + j * width e + i by omega] at this⟩)
    have hl := RepC_len h1
    have hy : Flat w O e [y] l := ⟨by simp [hl], fun j hj => by
      obtain rfl : j = 0 := by simpa using hj
      exact ⟨l, h1, fun i v hi => by simpa using hi⟩, RepC_one h1⟩
    refine ⟨l ++ L, hy.append h3, fun i v hi => ?_⟩
    by_cases hil : i < l.length
    · rw [List.getElem?_append_left hil] at hi
      have := h2 i v hi
      simpa using this
    · rw [List.getElem?_append_right (by omega)] at hi
      have := h4 _ v hi
      rwa [hl, show off + width e + (i - width e) = off + i by omega] at this
/-- A slice that is read: its cells. -/
def SlCells (w : World) (O : Nat → Prop) (e : Ty) (ys : List (El e)) (u : Value) : Prop :=
  ∃ ad cap L, u = .slice ad ys.length cap ∧ Flat w O e ys L ∧ (ys ≠ [] → ∃ b off, ad = some ⟨b, off, none⟩ ∧ ∀ i v, L[i]? = some v → w.cell? ⟨b, off + i, none⟩ = some v)
theorem SlCells.of {O : Nat → Prop} {e : Ty} {ys : List (El e)} {u : Value} (h : RepC w O (.sl e) ys [u]) : SlCells w O e ys u := by
  obtain ⟨ad, cap, e1, hc, hx⟩ := h
  obtain rfl := (List.cons.inj e1).1
  by_cases hn : ys = []
  · subst hn
    exact ⟨ad, cap, [], rfl, ⟨by simp, fun j hj => by simp at hj, fun v hv => by cases hv⟩, fun h => absurd rfl h⟩
  · obtain ⟨b, off, rfl, _, hx⟩ := hx hn
    obtain ⟨L, h1, h2⟩ := flat_of (w := w) (O := O) (fun i => w.cell? ⟨b, i, none⟩) ys off (fun j hj => by
      obtain ⟨l, h1, h2⟩ := hx j hj
      exact ⟨l, h1, fun i v hi => h2.cell hi⟩)
    exact ⟨_, cap, L, rfl, h1, fun _ => ⟨b, off, rfl, h2⟩⟩
theorem ArrRep.cells {ρ : Nat → Option Own} {ow : Own} {e : Ty} {ys : List (El e)} {u : Value} (h : ArrRep ρ w ow e ys u) : SlCells w (Ow ρ) e ys u := by
  rcases h with ⟨rfl, rfl⟩ | ⟨b, off, cap, c, el, rfl, hc, _, hh, hsz, hx⟩
  · exact ⟨none, 0, [], rfl, ⟨by simp, fun j hj => by simp at hj, fun v hv => by cases hv⟩, fun h => absurd rfl h⟩
  · obtain ⟨L, h1, h2⟩ := flat_of (w := w) (O := Ow ρ) (fun i => w.cell? ⟨b, i, none⟩) ys off (fun j hj => by
      obtain ⟨l, h1, h2⟩ := hx j hj
      exact ⟨l, h1, fun i v hi => by have := h2 i v hi; simp [World.cell?, hh, this]⟩)
    exact ⟨_, cap, L, rfl, h1, fun _ => ⟨b, off, rfl, h2⟩⟩
theorem SlCells.mono {O O' : Nat → Prop} {e : Ty} {ys : List (El e)} {u : Value} (h : SlCells w O e ys u) (hf : Free w O w O') : SlCells w O' e ys u := by
  obtain ⟨ad, cap, L, h1, h2, h3⟩ := h
  exact ⟨ad, cap, L, h1, h2.mono hf, h3⟩
theorem runs_borrowSl (hr : Rep C G N used st a w) {o : Operand} {v : AV Ω} {x : Value} (hv : RepAV C G w (opLoc o) v x)
    {f : AV Ω → Prg Ω} {acc rs : List Loc} {ws : List (Loc × AV Ω)} (h : (borrow v f).Runs st acc rs ws) :
    ∃ u acc', (f u).Runs st acc' rs ws ∧ (∀ e ys, u = .one (.dat (.sl e) ys) → SlCells w G.O e ys x) := by
  cases v with
  | agg ls => exact ⟨_, _, h, (fun _ _ e => by cases e)⟩
  | tup ps => exact ⟨_, _, h, (fun _ _ e => by cases e)⟩
  | one lf =>
    cases lf with
    | ali l id =>
      have h' : Prg.Runs st (match st.get l with
        | .one (.arr id' e xs) => (match idB id id' with | true => f (.one (.dat (.sl e) xs)) | false => .fail)
        | .one (.omp id' a b m) => (match idB id id' with | true => f (.one (.dat (.mp a b) m)) | false => .fail)
        | _ => .fail) (l :: acc) rs ws := h
      split at h'
      · rename_i id' e xs hl
        split at h'
        · rename_i hid'
          refine ⟨_, _, h', fun e' ys' e1 => ?_⟩
          cases e1
          exact (ali_arr hr hv.1 hl hid').cells
        · exact h'.elim
      · split at h'
        · exact ⟨_, _, h', (fun _ _ e => by cases e)⟩
        · exact h'.elim
      · exact h'.elim
    | avw l id sz lo hi =>
      have h' : Prg.Runs st (match st.get l with
        | .one (.arr id' e xs) => (match and (idB id id') (Nat.beq sz (width e)) with | true => .bind (cut xs lo hi) fun ys => f (.one (.dat (.sl e) ys)) | false => .fail)
        | _ => .fail) (l :: acc) rs ws := h
      split at h'
      · rename_i id' e xs hl
        split at h'
        · rename_i hid'
          rw [Bool.and_eq_true] at hid'
          obtain rfl := Nat.eq_of_beq_eq_true hid'.2
          obtain ⟨ys, hc, h'⟩ := h'
          obtain ⟨ad, len, cap, hΓ, _, _, _, _, rfl⟩ := avw_inv (C := C) (w := w) (l := l) hv
          refine ⟨_, _, h', fun e' ys' e1 => ?_⟩
          cases e1
          exact ((ali_arr hr hΓ hl hid'.1).cut hc).cells
        · exact h'.elim
      · exact h'.elim
    | arr id e xs =>
      obtain ⟨l2, e1, hΓ, ha⟩ := hv
      refine ⟨_, _, h, fun e' ys' e1 => ?_⟩
      cases e1
      exact ha.cells
    | omp id k v m => exact ⟨_, _, h, (fun _ _ e => by cases e)⟩
    | dat t x =>
      refine ⟨_, _, h, fun e' ys' e1 => ?_⟩
      cases e1
      exact SlCells.of hv
    | _ => exact ⟨_, _, h, (fun _ _ e => by cases e)⟩
/-- The new cells, as append reads them. -/
theorem SlCells.first {O : Nat → Prop} {e : Ty} {ys : List (El e)} {u : Value} (h : SlCells w O e ys u) : ∃ ad cap L, u = .slice ad ys.length cap ∧ Flat w O e ys L ∧ (ad = none → ys = []) ∧
    (Builtin.firstCells (width e) ys.length u).run P w = .ok L.toArray w ∧ (Builtin.firstCells (width e) ys.length u).run P w.drew = .ok L.toArray w.drew := by
  obtain ⟨ad, cap, L, rfl, hL, hx⟩ := h
  by_cases hn : ys = []
  · subst hn
    have hL0 : L = [] := by
      have := hL.len
      simpa using this
    subst hL0
    refine ⟨ad, cap, [], rfl, hL, fun _ => rfl, ?_, ?_⟩ <;>
    · cases ad with
      | none => exact run_firstCells_none _ _ _ _ _
      | some b => exact run_firstCells_some _ _ _ b _ _ [] (by simp) (fun j v h => by simp at h)
  · obtain ⟨b, off, rfl, hc⟩ := hx hn
    refine ⟨_, cap, L, rfl, hL, fun h => (by cases h), run_firstCells_some _ _ _ _ _ _ L hL.len (fun j v h => by rw [add_none]; exact hc j v h), run_firstCells_some _ _ _ _ _ _ L hL.len (fun j v h => by rw [add_none]; exact hc j v h)⟩
section
variable {t et : Nat} {j : TypeInfo} {z : Value}
theorem run_append_old (hu : P.underlying t = some (.slice et)) (hj : P.info? et = some j) {x : Value} {m c : Nat} {ad : Option Addr} (hx : x = .slice ad m c) {L : List Value} (hf : (Builtin.firstCells j.size m x).run P w = .ok L.toArray w)
    {b off len cap el : Nat} {cur : Array Value} (hg : w.heap[b]? = some (.cells cur el (0, 0))) (hroom : len + m ≤ cap) (hfit : off + len * j.size + L.length ≤ cur.size) (h1 : ∀ v ∈ L, v.oneCell' = true) :
    (Builtin.append_ #[t, t] ty #[.slice (some ⟨b, off, none⟩) len cap, x]).run P w = .ok (.slice (some ⟨b, off, none⟩) (len + m) cap) (w.setRow b (spl cur (off + len * j.size) L)) := by
  have hst := run_storeCells (P := P) (off := off + len * j.size) L 0 cur w hg (by omega) h1
  subst hx
  simp [Builtin.append_, run_underlying hu, sizeOf, typeInfo, hj, Builtin.lenOf, hroom, hf, add_none, hst]
theorem run_append_none (hu : P.underlying t = some (.slice et)) (hj : P.info? et = some j) {x : Value} {c : Nat} {ad : Option Addr} (hx : x = .slice ad 0 c) {L : List Value} (hf : (Builtin.firstCells j.size 0 x).run P w = .ok L.toArray w) :
    (Builtin.append_ #[t, t] ty #[.slice none 0 0, x]).run P w = .ok (.slice none 0 0) w := by
  subst hx
  simp [Builtin.append_, run_underlying hu, sizeOf, typeInfo, hj, Builtin.lenOf, hf]
theorem run_append_new (hu : P.underlying t = some (.slice et)) (hj : P.info? et = some j) (hz : j.zero = some z) {x s : Value} {m c len cap : Nat} {ad bd : Option Addr} (hx : x = .slice ad m c) (hs : s = .slice bd len cap) {L M : List Value}
    (hf : (Builtin.firstCells j.size m x).run P w.drew = .ok L.toArray w.drew) (hfo : (Builtin.firstCells j.size len s).run P w.drew = .ok M.toArray w.drew)
    (hg : cap < len + m) (hlim : len + m ≤ 68719476736) (hb : j.bytes ≤ 2048) :
    (Builtin.append_ #[t, t] ty #[s, x]).run P w = .ok (.slice (some ⟨w.heap.size, 0, none⟩) (len + m) (grownCap w (len + m) cap et))
      (w.drew.alloc (.cells (M.toArray ++ L.toArray ++ Builtin.zeroCells z.cells (grownCap w (len + m) cap et - (len + m))) et)) := by
  have hn : ¬ (len + m ≤ cap) := by omega
  have hbb : (len + m) * j.bytes ≤ 140737488355328 := by
    have := Nat.mul_le_mul hlim hb
    omega
  have h63' : ¬ (9223372036854775807 < ((len : Int) + (m : Int))) := by omega
  have hfit := growslice_fits hg hbb
  have h48' : ¬ (281474976710656 < Builtin.nextslicecap (len + m) cap * j.bytes) := by omega
  subst hx hs
  simp [Builtin.append_, run_underlying hu, sizeOf, typeInfo, zeroValue, hj, hz, Builtin.lenOf, hn, h63', h48', Question.forced, hf, hfo, newRow, grownCap]
  congr 2
  apply Array.ext'
  simp
end
/-- The value of an operation's owned slice where its row is written. -/
theorem fin_oldSlice (hr : Rep C G N used st a w) (hf : ¬ used (rc, i, 0)) (hu : ∀ x, used x → used' x) (hi : used' (rc, i, 0)) {d : Nat} (hd : d < N) {e : Ty} {xs ys : List (El e)} {b off cap el : Nat} {c : Array Value} {L : List Value} (hcap : xs.length + ys.length ≤ cap) (hρ : G.ρ b = some (.at_ (.tmp d)))
    (hh : w.heap[b]? = some (.cells c el (0, 0))) (hsz : off + cap * width e ≤ c.size) (hx : ∀ j (h : j < xs.length), ∃ vs, RepC w (Ow G.ρ) e xs[j] vs ∧ ∀ i v, vs[i]? = some v → c[off + j * width e + i]? = some v) (hL : Flat w G.O e ys L) (own : Bool) :
    ∃ G', Fr G.ρ w G'.ρ (w.setRow b (spl c (off + xs.length * width e) L)) ∧ Rep C G' N used' ([(.tmp d, slV own (rc, i, 0) e (xs ++ ys))] ++ st) (a.put (some d) (.slice (some ⟨b, off, none⟩) (xs.length + ys.length) cap)) (w.setRow b (spl c (off + xs.length * width e) L)) := by
  have hle : (xs.length + ys.length) * width e ≤ cap * width e := Nat.mul_le_mul_right _ hcap
  rw [Nat.add_mul] at hle
  have hin : off + xs.length * width e + L.length ≤ c.size := by rw [hL.len]; omega
  have hss := spl_size hin
  have h1 := hr.name hf (.slice (some ⟨b, off, none⟩) (xs.length + ys.length) cap) [] hu hi
  have hs1 := fun L' h => setRow_step (L := L') h1 (ow := .at_ (.tmp d)) hρ hh hss (fun l e => by cases e; exact h) (fun id e => by cases e) (by simp) (by simp)
  have hd' : d < a.tmps.size := by rw [hr.size]; exact hd
  have hrep : Rep C (G.name (rc, i, 0) (.slice (some ⟨b, off, none⟩) (xs.length + ys.length) cap) []) N used' ([(.tmp d, .one (.arr (rc, i, 0) e (xs ++ ys)))] ++ st) (a.put (some d) (.slice (some ⟨b, off, none⟩) (xs.length + ys.length) cap)) (w.setRow b (spl c (off + xs.length * width e) L)) := by
    refine Rep.step (ws := [(.tmp d, .one (.arr (rc, i, 0) e (xs ++ ys)))]) h1 (hs1 _ (by simp [inL, locB_self])) (fun l hl => ?_) (fun t ht => ?_) (put_size.trans hr.size) (put_defers.trans hr.defers) (fun _ _ _ h => .inl h) h1.usedΓ h1.usedβ
    · have : l = .tmp d := by simpa [inL_iff] using hl
      subst this
      show RepAV C _ _ _ (S.get [(Loc.tmp d, _)] (.tmp d)) ((a.put (some d) _).tmps.getD d undef)
      rw [getD_put hd']
      have e0 : S.get [(Loc.tmp d, AV.one (Leaf.arr (Ω := Ω) (rc, i, 0) e (xs ++ ys)))] (.tmp d) = .one (.arr (rc, i, 0) e (xs ++ ys)) := by simp [S.get, locB_self]
      rw [e0]
      refine ⟨_, rfl, ⟨[], name_at⟩, .inr ⟨b, off, cap, _, el, by rw [List.length_append], by rw [List.length_append]; exact hcap, hρ, setRow_heap w b _ _ _ _ hh, by rw [hss]; exact hsz, fun j hj => ?_⟩⟩
      have hfree := (hs1 (fun _ => True) trivial).free
      by_cases hjx : j < xs.length
      · obtain ⟨vs, k1, k2⟩ := hx j hjx
        refine ⟨vs, by rw [List.getElem_append_left hjx]; exact k1.mono hfree, fun i v hi => ?_⟩
        have hiw : i < width e := by
          have := (List.getElem?_eq_some_iff.1 hi).1
          rwa [RepC_len k1] at this
        have hjw : (j + 1) * width e ≤ xs.length * width e := Nat.mul_le_mul_right _ hjx
        rw [Nat.add_mul, Nat.one_mul] at hjw
        rw [spl_get hin, if_neg (by omega)]
        exact k2 i v hi
      · rw [List.length_append] at hj
        obtain ⟨vs, k1, k2⟩ := hL.el (j - xs.length) (by omega)
        refine ⟨vs, by rw [List.getElem_append_right (by omega)]; exact k1.mono hfree, fun i v hi => ?_⟩
        have hk := k2 i v hi
        have hlt := (List.getElem?_eq_some_iff.1 hk).1
        have e1 : j * width e = xs.length * width e + (j - xs.length) * width e := by
          rw [← Nat.add_mul]; congr 1; omega
        rw [spl_get hin, if_pos (by omega), show off + j * width e + i - (off + xs.length * width e) = (j - xs.length) * width e + i by omega]
        exact hk
    · refine getD_put_ne fun e => ?_
      subst e
      simp [inL, locB_self] at ht
  obtain ⟨G', k1, k2⟩ := hrep.ownOr own
  exact ⟨G', ((name_step hr hf _ [] (fun _ => True)).fr.trans (hs1 (fun _ => True) trivial).fr).trans k1, k2⟩
def dstLoc (d : Option Nat) : Loc := match d with | some d => .tmp d | none => .om
theorem ok_append (hT : TabOk P T) {c : Call} (hc : c.callee = .builtin .append) {own : Bool} (hd : ∀ d, dst = some d → d < N) : OpOk P C N rc i ⟨dst, .call c, ty, pos, after, guard⟩
    (match c.args.toList, c.argTypes.toList with
      | [x, y], [t, t'] => Prg.opt (T.get t) fun ti => opG x fun v => opG y fun w => borrow w fun u => (match ti.kind, ti.ty, u with
        | .sl _, .sl E, .one (.dat (.sl e) ys) => (match and (Nat.beq t t') (Nat.beq (width E) (width e)) with
          | true => takeV x (rc, i, 1) v fun a => (match a with
            | .one .nilS => .ite (limB ys.length) (putS ⟨dst, .call c, ty, pos, after, guard⟩ own (rc, i, 0) e ys) .fail
            | .one (.arr _ e' xs) => Prg.opt (cast? (.sl e') (.sl e) xs) fun xs' => .ite (limB (xs'.length + ys.length)) (putS ⟨dst, .call c, ty, pos, after, guard⟩ own (rc, i, 0) e (xs' ++ ys)) .fail
            | _ => .fail)
          | false => .fail)
        | _, _, _ => .fail)
      | _, _ => .fail) := by
  intro G used st a w acc rs ws hr hf h K Q hK
  split at h
  · rename_i x y t t' ha ht
    obtain ⟨ti, hti, h⟩ := runs_opt h
    obtain ⟨v, acc1, h, hv, hs⟩ := runs_opG hr h
    obtain ⟨v2, acc2, h, hv2, -⟩ := runs_opG hr h
    obtain ⟨u, acc3, h, hu⟩ := runs_borrowSl hr hv2 h
    cases hk : ti.kind with
    | sl et =>
      cases hty : ti.ty with
      | sl E =>
        cases u with
        | one lf =>
          cases lf with
          | dat tt ys =>
            cases tt with
            | sl e =>
              simp only [hk, hty] at h
              split at h
              · rename_i hb
                rw [Bool.and_eq_true] at hb
                have hq := h
                clear h
                obtain rfl := Nat.eq_of_beq_eq_true hb.1
                have hw := Nat.eq_of_beq_eq_true hb.2
                obtain ⟨hul, hz⟩ := hT.sl hti hk
                obtain ⟨j, z, hj, hjs, hjb, hjz, hzc, _⟩ := zeroB_spec (hz E hty)
                have hjw : j.size = width e := by rw [hjs, hw]
                have hy := hu _ _ rfl
                obtain ⟨av, ws', ws2, acc', G1, rfl, h, hm, hβ, hr1, hav⟩ := runs_take hr hv hs (dstLoc dst) (hf 1) (used' := fun id => used id ∨ id = (rc, i, 1)) (fun _ h => .inl h) (.inr rfl) hq
                have hy1 := hy.mono hm.free
                have hun : ¬ (fun id => used id ∨ id = (rc, i, 1)) (rc, i, 0) := by
                  rintro (h | h)
                  · exact hf 0 h
                  · simp at h
                have hup : ∀ x, (fun id => used id ∨ id = (rc, i, 1)) x → usedAt used rc i x := by
                  rintro x (h | rfl)
                  · exact .inl h
                  · exact .inr ⟨1, rfl⟩
                have hat : c.argTypes = #[t, t] := toList_two ht
                have hargs : c.args.map a.eval = #[a.eval x, a.eval y] := map_two ha
                have fin : ∀ (xs : List (El e)) (acc : List Loc), ArrRep G1.ρ w (.at_ (dstLoc dst)) e xs (a.eval x) → limB (xs.length + ys.length) = true →
                    (putS ⟨dst, .call c, ty, pos, after, guard⟩ own (rc, i, 0) e (xs ++ ys)).Runs (ws' ++ st) acc rs ws2 → (⟨dst, .call c, ty, pos, after, guard⟩ : Oper).wp P a w K Q := by
                  intro xs acc hax hlim hp
                  have hlim := of_decide_eq_true hlim
                  simp only [LIM] at hlim
                  obtain ⟨d, hdst, rfl⟩ := runs_putS hp
                  obtain rfl : dst = some d := hdst
                  obtain ⟨ad, cap, L, ey, hL, had, hf1, hf2⟩ := hy1.first
                  have new : ∀ {bd : Option Addr} {capx : Nat} {M : List Value}, a.eval x = .slice bd xs.length capx → Flat w G1.O e xs M → (Builtin.firstCells (width e) xs.length (a.eval x)).run P w.drew = .ok M.toArray w.drew → capx < xs.length + ys.length → (⟨some d, .call c, ty, pos, after, guard⟩ : Oper).wp P a w K Q := by
                    intro bd capx M ex hM hfo hg
                    have hrun := run_append_new (P := P) (ty := ty) hul hj hjz ey ex (by rw [hjw]; exact hf2) (by rw [hjw]; exact hfo) hg hlim hjb
                    have hML := hM.append hL
                    have hge := grownCap_ge w (xs.length + ys.length) capx et
                    have hzs : z.cells.size = width e := by
                      have := congrArg List.length hzc
                      rw [Array.length_toList] at this
                      rw [this, RepC_len (RepC_zero (w := w) (O := fun _ => False) E), hw]
                    obtain ⟨G', hfr, hrep⟩ := fin_newSlice hr1 hun hup (.inr ⟨0, rfl⟩) (hd d rfl) (Pushed.drewAlloc w _) (e := e) (ys := xs ++ ys) (c := M.toArray ++ L.toArray ++ Builtin.zeroCells z.cells (grownCap w (xs.length + ys.length) capx et - (xs.length + ys.length))) (el := et) (cap := grownCap w (xs.length + ys.length) capx et) (by rw [List.length_append]; exact hge)
                      (by
                        rw [Array.size_append, Array.size_append, List.size_toArray, List.size_toArray, size_zeroCells, hM.len, hL.len, hzs, ← Nat.add_mul, ← Nat.add_mul]
                        exact Nat.mul_le_mul_right _ (by omega))
                      (fun k hk => by
                        obtain ⟨vs, k1, k2⟩ := hML.el k hk
                        refine ⟨vs, k1, fun i v hi => ?_⟩
                        have h3 := k2 i v hi
                        have h4 := (List.getElem?_eq_some_iff.1 h3).1
                        have hMt : M.toArray ++ L.toArray = (M ++ L).toArray := by simp
                        rw [hMt, Array.getElem?_append_left (by rw [List.size_toArray]; exact h4), List.getElem?_toArray]
                        exact h3) own
                    rw [List.length_append] at hrep
                    exact wp_value (run_builtin hc hargs fun consts => by simp [Go.builtin, hat, hrun]) (hK_step hm.fr hK _ _ _ hfr hrep)
                  rcases hax with ⟨rfl, ex⟩ | ⟨b, off, capx, cur, el, ex, hcap, hρ, hh, hsz, hx⟩
                  · by_cases hn : ys = []
                    · subst hn
                      obtain ⟨G', hfr, hrep⟩ := fin_nilSlice hr1 hun hup (.inr ⟨0, rfl⟩) (hd d rfl) (e := e) own
                      have hrun := run_append_none (P := P) (ty := ty) hul hj ey (by rw [hjw]; exact hf1)
                      exact wp_value (run_builtin hc hargs fun consts => by simp [Go.builtin, hat, ex, hrun]) (hK_step hm.fr hK _ _ _ hfr hrep)
                    · have h0 : ys.length ≠ 0 := fun h => hn (List.length_eq_zero_iff.1 h)
                      exact new (M := []) ex ⟨by simp, fun j hj => by simp at hj, fun v hv => by cases hv⟩ (by rw [ex]; exact run_firstCells_none _ _ _ _ _) (by simp only [List.length_nil]; omega)
                  · by_cases hroom : xs.length + ys.length ≤ capx
                    · obtain ⟨G', hfr, hrep⟩ := fin_oldSlice hr1 hun hup (.inr ⟨0, rfl⟩) (hd d rfl) hroom hρ hh hsz hx hL own
                      have hle : (xs.length + ys.length) * width e ≤ capx * width e := Nat.mul_le_mul_right _ hroom
                      rw [Nat.add_mul] at hle
                      have hrun := run_append_old (P := P) (ty := ty) (off := off) hul hj ey (by rw [hjw]; exact hf1) hh hroom (by rw [hjw, hL.len]; omega) hL.one
                      rw [hjw] at hrun
                      exact wp_value (run_builtin hc hargs fun consts => by simp [Go.builtin, hat, ex, hrun]) (hK_step hm.fr hK _ _ _ hfr hrep)
                    · have hxs : SlCells w G1.O e xs (a.eval x) := ArrRep.cells (.inr ⟨b, off, capx, cur, el, ex, hcap, hρ, hh, hsz, hx⟩)
                      obtain ⟨ad', cap', M, ex', hM, _, _, hf4⟩ := hxs.first
                      exact new ex hM hf4 (by omega)
                split at h
                · rcases runs_ite h with ⟨hb, h⟩ | ⟨_, h⟩
                  · have ex : a.eval x = .slice none 0 0 := hav
                    exact fin [] _ (.inl ⟨rfl, ex⟩) (by rw [List.length_nil, Nat.zero_add]; exact hb) h
                  · exact h.elim
                · obtain ⟨xs', hcx, h⟩ := runs_opt h
                  obtain ⟨ee, rfl⟩ := cast_eq hcx
                  cases ee
                  rcases runs_ite h with ⟨hb, h⟩ | ⟨_, h⟩
                  · obtain ⟨l, el, _, hax⟩ := hav
                    cases el
                    exact fin _ _ hax hb h
                  · exact h.elim
                · exact h.elim
              · exact h.elim
            | _ => simp only [hk, hty] at h; exact h.elim
          | _ => simp only [hk, hty] at h; exact h.elim
        | _ => simp only [hk, hty] at h; exact h.elim
      | _ => simp only [hk, hty] at h; exact h.elim
    | _ => simp only [hk] at h; exact h.elim
  · exact h.elim
end
end Go.Proofs.Ytbgefphoochgcaa.FE
