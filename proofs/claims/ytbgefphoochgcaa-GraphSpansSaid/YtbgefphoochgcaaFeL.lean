/- FE, part 12: operations that change no memory: parts of slices, structs, look-ups. -/
import Derived.Test.YtbgefphoochgcaaFeK
namespace Go.Proofs.Ytbgefphoochgcaa.FE
open Go
set_option linter.unusedVariables false
set_option linter.unusedSimpArgs false
section
variable {Ω : Type} {C : CloRep Ω} {P : Program} {T : Tab} {N : Nat}
variable {rc i : Nat} {dst : Option Nat} {ty : Nat} {pos : String} {after : Array Edge} {guard : Option (Nat × Bool)}
variable {G : Ghost} {used : Id → Prop} {st ws : S Ω} {a : Act} {w : World} {acc rs : List Loc} {o : Oper} {K : Act → World → Prop} {Q : Exit → Act → World → Prop}

def isBound (a : Act) (o : Option Operand) (d n : Int) : Prop := match o with | none => n = d | some x => ∃ k, a.eval x = .int k n
theorem optInt_runs (hr : Rep C G N used st a w) {o : Option Operand} {d : Int} {f : Int → Prg Ω} (h : (optInt o d f).Runs st acc rs ws) : ∃ n acc', (f n).Runs st acc' rs ws ∧ isBound a o d n := by
  cases o with
  | none => exact ⟨d, acc, h, rfl⟩
  | some x =>
    obtain ⟨v, acc1, h, hv, -⟩ := runs_opG hr h
    obtain ⟨k, n, rfl, h⟩ := intOf_runs h
    exact ⟨n, acc1, h, k, dat_int hv⟩
theorem run_sliceBound {k : IntKind} {n : Int} {y : Nat} {code : BoundsCode} (h0 : 0 ≤ n) (h1 : n ≤ (y : Int)) : (Instr.sliceBound (.int k n) y code).run P w = .ok n.toNat w := by
  simp [Instr.sliceBound, asIntOf, h0, h1]
theorem run_sliceAt {t e : Nat} (hu : P.underlying t = some (.slice e)) {j : TypeInfo} (hj : P.info? e = some j) {ad : Option Addr} {len cap : Nat} (hcap : len ≤ cap) {lo hi : Option Operand} {l h : Int}
    (hl : isBound a lo 0 l) (hh : isBound a hi (len : Int) h) (h0 : 0 ≤ l) (h1 : l ≤ h) (h2 : h ≤ (len : Int)) :
    (Instr.sliceAt t (.slice ad len cap) (lo.map a.eval) (hi.map a.eval) none).run P w = .ok (cutV ad cap j.size l h) w := by
  have hb : (Instr.sliceBounds true len cap (lo.map a.eval) (hi.map a.eval) none).run P w = .ok (l.toNat, h.toNat, cap) w := by
    cases hi with
    | none =>
      obtain rfl : h = len := hh
      cases lo with
      | none => obtain rfl : l = 0 := hl; simp [Instr.sliceBounds]
      | some y => obtain ⟨k, e⟩ := hl; simp [Instr.sliceBounds, e, run_sliceBound h0 h1]
    | some x =>
      obtain ⟨k, e⟩ := hh
      have r1 : ∀ code, (Instr.sliceBound (.int k h) cap code).run P w = .ok h.toNat w := fun _ => run_sliceBound (by omega) (by omega)
      cases lo with
      | none => obtain rfl : l = 0 := hl; simp [Instr.sliceBounds, e, r1]
      | some y =>
        obtain ⟨k', e'⟩ := hl
        have r2 : ∀ code, (Instr.sliceBound (.int k' l) h.toNat code).run P w = .ok l.toNat w := fun _ => run_sliceBound h0 (by omega)
        simp [Instr.sliceBounds, e, e', r1, r2]
  simp only [Instr.sliceAt, Sem.run_bind, run_underlying hu, Result.andThen_ok, Instr.slice, hb, sizeOf, typeInfo, run_program, hj, Sem.run_pure, cutV, Tables.info?] at *
  have hc : (cap = l.toNat) ↔ ((cap : Int) = l) := by omega
  have hn : h.toNat - l.toNat = (h - l).toNat := by omega
  simp [hj, hc, hn]
theorem run_slice_op {t e : Nat} (hu : P.underlying t = some (.slice e)) {j : TypeInfo} (hj : P.info? e = some j) {ad : Option Addr} {len cap : Nat} (hcap : len ≤ cap) {lo hi : Option Operand} {l h : Int} {x : Operand} (ex : a.eval x = .slice ad len cap)
    (hl : isBound a lo 0 l) (hh : isBound a hi (len : Int) h) (h0 : 0 ≤ l) (h1 : l ≤ h) (h2 : h ≤ (len : Int)) {sz : Nat} (hs : j.size = sz) :
    (execOp a.eval ⟨dst, .slice t x lo hi none, ty, pos, after, guard⟩).run P w = .ok (.value (cutV ad cap sz l h)) w := by
  have := run_sliceAt (w := w) (ad := ad) hu hj hcap hl hh h0 h1 h2
  rw [hs] at this
  simp [execOp, ex, this]
theorem ok_slice (hT : TabOk P T) {t : Nat} {x : Operand} {lo hi : Option Operand} (hd : ∀ d, dst = some d → d < N) : OpOk P C N rc i ⟨dst, .slice t x lo hi none, ty, pos, after, guard⟩
    (Prg.opt (T.get t) fun ti => (match ti.kind, ti.ty with
      | .sl _, .sl E => opG x fun v => (match v with
        | .one (.dat (.sl e) xs) => (match Nat.beq (width E) (width e) with
          | true => optInt lo 0 fun a => optInt hi (xs.length : Int) fun b => .bind (cut xs a b) fun ys => putP ⟨dst, .slice t x lo hi none, ty, pos, after, guard⟩ (.one (.dat (.sl e) ys))
          | false => .fail)
        | v => arrG x v fun l id e xs => (match Nat.beq (width E) (width e) with
          | true => optInt lo 0 fun a => optInt hi (xs.length : Int) fun b => .bind (cut xs a b) fun ys => putP ⟨dst, .slice t x lo hi none, ty, pos, after, guard⟩ (.one (.avw l id (width e) a b))
          | false => .fail))
      | _, _ => .fail)) := by
  intro G used st a w acc rs ws hr hf h K Q hK
  obtain ⟨ti, hti, h⟩ := runs_opt h
  split at h
  · rename_i e0 E hk hE
    obtain ⟨hu, hz⟩ := hT.sl hti hk
    obtain ⟨j, z, hj, hs, _⟩ := zeroB_spec (hz E hE)
    obtain ⟨v, acc1, h, hv, hsrc⟩ := runs_opG hr h
    split at h
    · split at h
      · rename_i hw
        have hw := Nat.eq_of_beq_eq_true hw
        obtain ⟨l, acc2, h, hl⟩ := optInt_runs hr h
        obtain ⟨b, acc3, h, hb⟩ := optInt_runs hr h
        obtain ⟨ys, hy, h⟩ := h
        have hv' := hv
        obtain ⟨ad, cap, ev, hcap, _⟩ := hv'
        have ex := (List.cons.inj ev).1
        obtain ⟨h0, h1, h2, _⟩ := cut_some hy
        refine fin_dat hd hr hK h (run_slice_op hu hj hcap ex hl hb h0 h1 h2 (hs.trans hw)) ?_
        have hv2 : RepC w G.O (.sl _) _ [a.eval x] := hv
        rw [ex] at hv2
        exact hv2.cut hy
      · exact h.elim
    · obtain ⟨l', id, e, xs, acc2, h, hl', ⟨bs, hΓ⟩, ha⟩ := arrG_runs hr (fun _ _ => ownLoc_rep hv) h
      split at h
      · rename_i hw
        have hw := Nat.eq_of_beq_eq_true hw
        obtain ⟨l, acc2, h, hl⟩ := optInt_runs hr h
        obtain ⟨b, acc3, h, hb⟩ := optInt_runs hr h
        obtain ⟨ys, hy, h⟩ := h
        obtain ⟨ad, cap, ex, hcap⟩ := ha.header
        obtain ⟨h0, h1, h2, _⟩ := cut_some hy
        exact fin_any hd hr hK h trivial (run_slice_op hu hj hcap ex hl hb h0 h1 h2 (hs.trans hw)) ⟨ad, xs.length, cap, bs, by rw [hΓ, ex], h0, h1, h2, hcap, rfl⟩
      · exact h.elim
  · exact h.elim

/-! ### look-ups -/
theorem keyB_spec {t : Nat} {Kt : Ty} (h : keyB P t Kt = true) : (∃ k, Kt = .int k ∧ P.underlying t = some (.int k)) ∨ (Kt = .str ∧ P.underlying t = some .string) := by
  unfold keyB at h
  split at h
  · rename_i k k' e
    obtain rfl := IK_inj (Nat.eq_of_beq_eq_true h)
    exact .inl ⟨_, rfl, e⟩
  · rename_i e; exact .inr ⟨rfl, e⟩
  · cases h
theorem keyEq_str (x y : ByteArray) : keyEq .str x y = (x == y) := rfl
/-- A key, as a value. -/
def keyV : (Kt : Ty) → El Kt → Value
  | .int k, n => .int k n
  | .str, s => .string s
  | _, _ => undef
theorem run_checkKey {t : Nat} {Kt : Ty} (hk : keyB P t Kt = true) (x : El Kt) (e : Bool) : (Instr.checkKey e 10000 t (keyV Kt x)).run P w = .ok () w := by
  show (Instr.checkKey e (9999 + 1) t (keyV Kt x)).run P w = .ok () w
  rw [Instr.checkKey]
  rcases keyB_spec hk with ⟨k, rfl, hu⟩ | ⟨rfl, hu⟩ <;> simp [run_underlying hu, keyV]
theorem findNow_look {d : TypeDesc} {Kt Vt : Ty} (hd : (∃ k, Kt = .int k ∧ d = .int k) ∨ (Kt = .str ∧ d = .string)) {O : Nat → Prop} (x : El Kt) : ∀ (m : List (El Kt × El Vt)) (es : List MapEntry) (n : Nat), es.length = m.length →
    (∀ j (h : j < m.length), ∃ en, es[j]? = some en ∧ RepV w O Kt m[j].1 en.key ∧ RepV w O Vt m[j].2 en.val) →
    (match look m x with
      | none => Instr.findNow d (keyV Kt x) es n = some none
      | some y => ∃ v, Instr.findNow d (keyV Kt x) es n = some (some (n + posOf m x, v)) ∧ RepV w O Vt y v) ∧ (look m x = none ↔ posOf m x = m.length)
  | [], [], n, _, _ => ⟨rfl, by simp [look, posOf]⟩
  | (k0, v0) :: m, [], n, hl, _ => by simp at hl
  | [], e :: es, n, hl, _ => by simp at hl
  | (k0, v0) :: m, e :: es, n, hl, hx => by
    obtain ⟨en, h1, h2, h3⟩ := hx 0 (by simp)
    obtain rfl : e = en := by simpa using h1
    have ih := findNow_look hd (Vt := Vt) x m es (n + 1) (by simpa using hl) (fun j hj => by
      obtain ⟨en, h1, h2⟩ := hx (j + 1) (by simpa using hj)
      exact ⟨en, by simpa using h1, by simpa using h2⟩)
    have hsame : Instr.sameNow d (keyV Kt x) e.key = some (keyEq Kt x k0) := by
      rcases hd with ⟨k, rfl, rfl⟩ | ⟨rfl, rfl⟩
      · have e1 : [e.key] = [Value.int k k0] := h2
        have e1 := (List.cons.inj e1).1
        rw [e1]
        simp [Instr.sameNow, keyV, keyEq, beq_dec]
      · have e1 : [e.key] = [Value.string k0] := h2
        have e1 := (List.cons.inj e1).1
        rw [e1]
        rfl
    cases hq : keyEq Kt x k0 with
    | true =>
      have e1 : look ((k0, v0) :: m) x = some v0 := by simp [look, hq]
      have e2 : posOf ((k0, v0) :: m) x = 0 := by simp [posOf, hq]
      rw [e1, e2]
      refine ⟨⟨e.val, ?_, h3⟩, by simp⟩
      unfold Instr.findNow
      rw [hsame, hq]
      rfl
    | false =>
      have e1 : look ((k0, v0) :: m) x = look m x := by simp [look, hq]
      have e2 : posOf ((k0, v0) :: m) x = posOf m x + 1 := by simp [posOf, hq]
      have e3 : Instr.findNow d (keyV Kt x) (e :: es) n = Instr.findNow d (keyV Kt x) es (n + 1) := by
        conv => lhs; unfold Instr.findNow
        rw [hsame, hq]
      rw [e1, e2, e3]
      refine ⟨?_, by rw [ih.2]; simp⟩
      have := ih.1
      split at this
      · exact this
      · obtain ⟨v, h4, h5⟩ := this
        exact ⟨v, by rw [h4, show n + 1 + posOf m x = n + (posOf m x + 1) by omega], h5⟩
theorem keyD {t : Nat} {Kt : Ty} (hk : keyB P t Kt = true) : ∃ d, P.underlying t = some d ∧ ((∃ k, Kt = .int k ∧ d = .int k) ∨ (Kt = .str ∧ d = .string)) := by
  rcases keyB_spec hk with ⟨k, rfl, hu⟩ | ⟨rfl, hu⟩
  · exact ⟨_, hu, .inl ⟨k, rfl, rfl⟩⟩
  · exact ⟨_, hu, .inr ⟨rfl, rfl⟩⟩
theorem run_findKey {t : Nat} {Kt Vt : Ty} (hk : keyB P t Kt = true) {O : Nat → Prop} {x : El Kt} {m : List (El Kt × El Vt)} {es : Array MapEntry} (hl : es.size = m.length)
    (hx : ∀ j (h : j < m.length), ∃ en, es[j]? = some en ∧ RepV w O Kt m[j].1 en.key ∧ RepV w O Vt m[j].2 en.val) :
    (match look m x with
      | none => (Instr.findKey t (keyV Kt x) es.toList).run P w = .ok none w
      | some y => ∃ v, (Instr.findKey t (keyV Kt x) es.toList).run P w = .ok (some (posOf m x, v)) w ∧ RepV w O Vt y v) ∧ (look m x = none ↔ posOf m x = m.length) := by
  obtain ⟨d, hu, hd⟩ := keyD hk
  have h := findNow_look (w := w) (O := O) (Vt := Vt) hd x m es.toList 0 (by simpa using hl) (fun j hj => by simpa using hx j hj)
  refine ⟨?_, h.2⟩
  have h1 := h.1
  split at h1
  · simp [Instr.findKey, run_underlying hu, h1]
  · obtain ⟨v, h4, h5⟩ := h1
    exact ⟨v, by simp [Instr.findKey, run_underlying hu, h4], h5⟩
theorem key_val {t : Nat} {Kt : Ty} (hk : keyB P t Kt = true) {O : Nat → Prop} {x : El Kt} {v : Value} (h : RepC w O Kt x v.cells.toList) (hv : v.cells = #[v]) : v = keyV Kt x := by
  rw [hv] at h
  rcases keyB_spec hk with ⟨k, rfl, _⟩ | ⟨rfl, _⟩
  · have e : [v] = [Value.int k x] := h
    exact (List.cons.inj e).1
  · have e : [v] = [Value.string x] := h
    exact (List.cons.inj e).1
theorem keyB_row {t : Nat} {Kt : Ty} (hk : keyB P t Kt = true) : rowB Kt = false ∧ width Kt = 1 := by
  rcases keyB_spec hk with ⟨k, rfl, _⟩ | ⟨rfl, _⟩ <;> exact ⟨rfl, rfl⟩
/-- A key's operand. -/
theorem key_op {t : Nat} {Kt : Ty} (hk : keyB P t Kt = true) {at_ : Option Loc} {u : AV Ω} {v : Value} (hu : RepAV C G w at_ u v) {x : El Kt} (hp : packAll Kt (keyL u) = some x) : v = keyV Kt x := by
  have fin : RepC w G.O Kt x [v] → v = keyV Kt x := by
    intro h
    rcases keyB_spec hk with ⟨k, rfl, _⟩ | ⟨rfl, _⟩
    · have e : [v] = [Value.int k x] := h
      exact (List.cons.inj e).1
    · have e : [v] = [Value.string x] := h
      exact (List.cons.inj e).1
  cases u with
  | one l =>
    cases l with
    | dat t' y =>
      have h1 : RepL C G w none (.dat t' y : Leaf Ω) v := hu
      exact fin (packAll_rep (C := C) hp (.cons h1 .nil))
    | _ => rcases keyB_spec hk with ⟨k, rfl, _⟩ | ⟨rfl, _⟩ <;> (unfold packAll at hp; simp [keyL, pack] at hp)
  | agg ls => rcases keyB_spec hk with ⟨k, rfl, _⟩ | ⟨rfl, _⟩ <;> (unfold packAll at hp; simp [keyL, pack] at hp)
  | tup ps => rcases keyB_spec hk with ⟨k, rfl, _⟩ | ⟨rfl, _⟩ <;> (unfold packAll at hp; simp [keyL, pack] at hp)
theorem unpackV_rep {t : Ty} {x : El t} {v : Value} (h : RepV w G.O t x v) : RepAV C G w none (avOf (rowB t) (unpack t x)) v ∧ noOwn (avOf (rowB t) (unpack t x) : AV Ω) := by
  unfold RepV Val at h
  cases hr : rowB t with
  | true =>
    rw [hr] at h
    obtain ⟨cs, rfl, h⟩ := h
    exact ⟨avOf_rep (unpack_rep h) (by simp), trivial⟩
  | false =>
    rw [hr] at h
    exact ⟨avOf_rep (unpack_rep h) rfl, noOwn_avOf (C := C) (unpack_rep h)⟩
theorem RepV_zero {ty : Ty} {z : Value} (hz : z.cells.toList = zeroCells ty) (ha : aggB z = rowB ty) {O : Nat → Prop} : RepV w O ty (zeroEl ty) z := by
  unfold RepV Val
  cases hr : rowB ty with
  | true =>
    rw [hr] at ha
    cases z <;> simp [aggB] at ha
    rename_i cs
    exact ⟨cs, rfl, by have : cs.toList = zeroCells ty := hz
                       rw [this]; exact RepC_zero ty⟩
  | false =>
    rw [hr] at ha
    have hc : z.cells.toList = [z] := by cases z <;> first | rfl | simp [aggB] at ha
    rw [hc] at hz
    show RepC w O ty (zeroEl ty) [z]
    rw [hz]
    exact RepC_zero ty
theorem lookOut_rep {ok : Bool} {V : Ty} {r : Option (El V)} {v : Value} (h : RepV w G.O V (r.getD (zeroEl V)) v) : RepAV C G w none (lookOut ok V r) (if ok then .tuple #[v, .bool r.isSome] else v) ∧ noOwn (lookOut ok V r : AV Ω) := by
  cases ok with
  | false => exact unpackV_rep h
  | true =>
    refine ⟨⟨#[v, .bool r.isSome], rfl, .cons ?_ (.cons ?_ .nil)⟩, trivial⟩
    · have := (unpackV_rep (C := C) h).1
      cases hq : avOf (rowB V) (unpack V (r.getD (zeroEl V))) with
      | one l => rw [hq] at this; exact this
      | agg ls => rw [hq] at this; exact this
      | tup ps =>
        exfalso
        unfold avOf at hq
        split at hq
        · cases hq
        · split at hq <;> cases hq
    · exact (rfl : [Value.bool r.isSome] = [Value.bool r.isSome])
/-- A map that is looked into: its entries stand for data. -/
def MapData (w : World) (O : Nat → Prop) (k v : Ty) (m : List (El k × El v)) (u : Value) : Prop :=
  (u = .map none ∧ m = []) ∨ ∃ b es clock, u = .map (some b) ∧ w.heap[b]? = some (.map es clock) ∧ es.size = m.length ∧
    ∀ j (h : j < m.length), ∃ en, es[j]? = some en ∧ RepV w O k m[j].1 en.key ∧ RepV w O v m[j].2 en.val
theorem runs_borrowMap (hr : Rep C G N used st a w) {o : Operand} {v : AV Ω} {x : Value} (hv : RepAV C G w (opLoc o) v x)
    {f : AV Ω → Prg Ω} {acc rs : List Loc} {ws : List (Loc × AV Ω)} (h : (borrow v f).Runs st acc rs ws) :
    ∃ u acc', (f u).Runs st acc' rs ws ∧ (∀ k v m, u = .one (.dat (.mp k v) m) → MapData w G.O k v m x) ∧ (u = .one .nilM → x = .map none) := by
  cases v with
  | agg ls => exact ⟨_, _, h, (fun _ _ _ e => by cases e), (fun e => by cases e)⟩
  | tup ps => exact ⟨_, _, h, (fun _ _ _ e => by cases e), (fun e => by cases e)⟩
  | one lf =>
    cases lf with
    | ali l id =>
      have h' : Prg.Runs st (match st.get l with
        | .one (.arr id' e xs) => (match idB id id' with | true => f (.one (.dat (.sl e) xs)) | false => .fail)
        | .one (.omp id' a b m) => (match idB id id' with | true => f (.one (.dat (.mp a b) m)) | false => .fail)
        | _ => .fail) (l :: acc) rs ws := h
      split at h'
      · split at h'
        · exact ⟨_, _, h', (fun _ _ _ e => by cases e), (fun e => by cases e)⟩
        · exact h'.elim
      · rename_i id' k v m hl
        split at h'
        · rename_i hid'
          obtain ⟨⟨bs, hΓ⟩, -⟩ := hv
          obtain ⟨b, es, clock, e, _, hh, hs, _, hx, _⟩ := ali_omp hr hΓ hl hid'
          refine ⟨_, _, h', fun k' v' m' e' => ?_, fun e => by cases e⟩
          cases e'
          exact .inr ⟨b, es, clock, e, hh, hs, hx⟩
        · exact h'.elim
      · exact h'.elim
    | avw l id sz lo hi =>
      have h' : Prg.Runs st (match st.get l with
        | .one (.arr id' e xs) => (match and (idB id id') (Nat.beq sz (width e)) with | true => .bind (cut xs lo hi) fun ys => f (.one (.dat (.sl e) ys)) | false => .fail)
        | _ => .fail) (l :: acc) rs ws := h
      split at h'
      · split at h'
        · obtain ⟨ys, hc, h'⟩ := h'
          exact ⟨_, _, h', (fun _ _ _ e => by cases e), (fun e => by cases e)⟩
        · exact h'.elim
      · exact h'.elim
    | arr id e xs => exact ⟨_, _, h, (fun _ _ _ e => by cases e), (fun e => by cases e)⟩
    | omp id k v m =>
      obtain ⟨l2, bs, e1, hΓ, ha⟩ := hv
      obtain ⟨b, es, clock, e, _, hh, hs, _, hx, _⟩ := ha
      refine ⟨_, _, h, fun k' v' m' e' => ?_, fun e => by cases e⟩
      cases e'
      exact .inr ⟨b, es, clock, e, hh, hs, hx⟩
    | dat t y =>
      refine ⟨_, _, h, fun k' v' m' e' => ?_, fun e => by cases e⟩
      cases e'
      obtain ⟨r, e, hv⟩ := hv
      have e := (List.cons.inj e).1
      rcases hv with ⟨rfl, rfl⟩ | ⟨b, es, clock, rfl, _, hh, hs, hx⟩
      · exact .inl ⟨e, rfl⟩
      · exact .inr ⟨b, es, clock, e, hh, hs, hx⟩
    | nilM => exact ⟨_, _, h, (fun _ _ _ e => by cases e), (fun _ => hv)⟩
    | _ => exact ⟨_, _, h, (fun _ _ _ e => by cases e), (fun e => by cases e)⟩
theorem run_lookup {t k v : Nat} {Kt Vt : Ty} (hu : P.underlying t = some (.map k v)) (hk : keyB P k Kt = true) (hv : zeroB P v Vt = true) {O : Nat → Prop} {m : List (El Kt × El Vt)} {u : Value} (hm : MapData w O Kt Vt m u) (x : El Kt) (ok : Bool) :
    ∃ r, (Instr.lookup t u (keyV Kt x) ok).run P w = .ok (if ok then .tuple #[r, .bool (look m x).isSome] else r) w ∧ RepV w O Vt ((look m x).getD (zeroEl Vt)) r := by
  obtain ⟨j, z, hj, _, _, hz, hzc, hza⟩ := zeroB_spec hv
  have hz' := RepV_zero (w := w) (O := O) hzc hza
  rcases hm with ⟨rfl, rfl⟩ | ⟨b, es, clock, rfl, hh, hs, hx⟩
  · refine ⟨z, ?_, hz'⟩
    have hc := run_checkKey (w := w) hk x true
    have hf : (Instr.findKey k (keyV Kt x) []).run P w = .ok none w := by
      obtain ⟨d, hd, _⟩ := keyD hk
      simp [Instr.findKey, run_underlying hd, Instr.findNow]
    cases ok <;> simp [Instr.lookup, run_underlying hu, hc, hf, zeroValue, typeInfo, hj, hz, look]
  · have hc := run_checkKey (w := w) hk x es.isEmpty
    have hf := (run_findKey (w := w) hk (O := O) (x := x) hs hx).1
    split at hf
    · rename_i hn
      refine ⟨z, ?_, by rw [hn]; exact hz'⟩
      cases ok <;> simp [Instr.lookup, run_underlying hu, run_getObj hh, hc, hf, zeroValue, typeInfo, hj, hz, hn]
    · rename_i y hn
      obtain ⟨r, hf, hr⟩ := hf
      refine ⟨r, ?_, by rw [hn]; exact hr⟩
      cases ok <;> simp [Instr.lookup, run_underlying hu, run_getObj hh, hc, hf, hn]
theorem ok_lookup (hT : TabOk P T) {t : Nat} {x ix : Operand} {ok : Bool} (hd : ∀ d, dst = some d → d < N) : OpOk P C N rc i ⟨dst, .lookup t x ix ok, ty, pos, after, guard⟩
    (Prg.opt (T.get t) fun ti => (match ti.kind, ti.ty with
      | .mp _ _, .mp K V => opG x fun vx => opG ix fun vk => Prg.opt (packAll K (keyL vk)) fun kk => borrow vx fun u => (match u with
        | .one .nilM => putP ⟨dst, .lookup t x ix ok, ty, pos, after, guard⟩ (lookOut ok V none)
        | .one (.dat (.mp K' V') mm) => Prg.opt (cast? (.mp K' V') (.mp K V) mm) fun mm' => putP ⟨dst, .lookup t x ix ok, ty, pos, after, guard⟩ (lookOut ok V (look mm' kk))
        | _ => .fail)
      | _, _ => .fail)) := by
  intro G used st a w acc rs ws hr hf h K Q hK
  obtain ⟨ti, hti, h⟩ := runs_opt h
  split at h
  · rename_i k0 v0 Kt Vt hk hty
    obtain ⟨hu, hkv⟩ := hT.mp hti hk
    obtain ⟨hkb, hvb⟩ := hkv _ _ hty
    obtain ⟨vx, acc1, h, hvx, -⟩ := runs_opG hr h
    obtain ⟨vk, acc2, h, hvk, -⟩ := runs_opG hr h
    obtain ⟨kk, hkk, h⟩ := runs_opt h
    have ek := key_op hkb hvk hkk
    obtain ⟨u, acc3, h, h1, h2⟩ := runs_borrowMap hr hvx h
    have fin : ∀ {m : List (El Kt × El Vt)} {acc : List Loc}, MapData w G.O Kt Vt m (a.eval x) → (putP ⟨dst, .lookup t x ix ok, ty, pos, after, guard⟩ (lookOut ok Vt (look m kk))).Runs st acc rs ws → (⟨dst, .lookup t x ix ok, ty, pos, after, guard⟩ : Oper).wp P a w K Q := by
      intro m acc hm h
      obtain ⟨r, hrun, hrep⟩ := run_lookup hu hkb hvb hm kk ok
      obtain ⟨hrep2, hno⟩ := lookOut_rep (C := C) (ok := ok) hrep
      exact fin_any hd hr hK h hno (by simp only [execOp, ek]; simp [hrun]) hrep2
    split at h
    · exact fin (m := []) (.inl ⟨h2 rfl, rfl⟩) h
    · obtain ⟨mm', hc, h⟩ := runs_opt h
      obtain ⟨e, rfl⟩ := cast_eq hc
      cases e
      exact fin (h1 _ _ _ rfl) h
    · exact h.elim
  · exact h.elim
end
end Go.Proofs.Ytbgefphoochgcaa.FE
