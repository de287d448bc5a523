/- FE, part 9: operations that change no memory: comparisons, addresses, reads. -/
import Derived.Test.YtbgefphoochgcaaFeH
import Derived.Laws.Append
import Derived.Laws.Tables
import Derived.Laws.Entries
import Derived.Laws.Cells
namespace Go.Proofs.Ytbgefphoochgcaa.FE
open Go
set_option linter.unusedVariables false
set_option linter.unusedSimpArgs false
section
variable {Ω : Type} {C : CloRep Ω} {P : Program} {T : Tab} {N : Nat}
variable {rc i : Nat} {dst : Option Nat} {ty : Nat} {pos : String} {after : Array Edge} {guard : Option (Nat × Bool)}
variable {G : Ghost} {used : Id → Prop} {st ws : S Ω} {a : Act} {w : World} {acc rs : List Loc} {o : Oper} {K : Act → World → Prop} {Q : Exit → Act → World → Prop}

theorem noOwn_of {u : AV Ω} {v : Value} (h : RepAV C G w none u v) : noOwn u := by
  cases u with
  | one l =>
    cases l with
    | arr id e xs => obtain ⟨_, e, _⟩ := h; cases e
    | omp id k vt m => obtain ⟨_, _, e, _⟩ := h; cases e
    | _ => trivial
  | _ => trivial
theorem nilP_runs {op : BinOp} {b : Bool} (hp : (nilP op b fun v => putP o v).Runs st acc rs ws) : (op = .eql ∧ (putP o (.one (.dat .bool b))).Runs st acc rs ws) ∨ (op = .neq ∧ (putP o (.one (.dat .bool (!b)))).Runs st acc rs ws) := by
  unfold nilP at hp
  split at hp
  · exact .inl ⟨rfl, hp⟩
  · exact .inr ⟨rfl, hp⟩
  · exact hp.elim
/-- '==' and '!=' where neither side is a number, a string. -/
theorem ok_eqlOf {op : BinOp} {t yt : Nat} {x y : Operand} {b : Bool} (hd : ∀ d, dst = some d → d < N)
    (hr : Rep C G N used st a w)
    (h1 : (execOp a.eval ⟨dst, .binOp .eql t x y yt, ty, pos, after, guard⟩).run P w = .ok (.value (.bool b)) w)
    (h2 : (execOp a.eval ⟨dst, .binOp .neq t x y yt, ty, pos, after, guard⟩).run P w = .ok (.value (.bool (!b))) w)
    (h : (nilP op b fun v => putP ⟨dst, .binOp op t x y yt, ty, pos, after, guard⟩ v).Runs st acc rs ws)
    (hK : ∀ G' a' w', Fr G.ρ w G'.ρ w' → Rep C G' N (usedAt used rc i) (ws ++ st) a' w' → K a' w') : (⟨dst, .binOp op t x y yt, ty, pos, after, guard⟩ : Oper).wp P a w K Q := by
  rcases nilP_runs h with ⟨rfl, h⟩ | ⟨rfl, h⟩
  · exact fin_dat hd hr hK h h1 rfl
  · exact fin_dat hd hr hK h h2 rfl
theorem isNilV_rep {v : AV Ω} {b : Bool} {u : Value} {at_ : Option Loc} (h : isNilV v = some b) (hv : RepAV C G w at_ v u) : ∃ ad, u = .pointer ad ∧ ad.isNone = b := by
  unfold isNilV at h
  split at h <;> cases h
  · exact ⟨none, hv, rfl⟩
  · obtain ⟨b, _, e⟩ := hv; exact ⟨_, e, rfl⟩
  · obtain ⟨b, off, l, e, _⟩ := hv; exact ⟨_, e, rfl⟩
  · rcases hv with ⟨rfl, e⟩ | ⟨y, b, off, l, rfl, e, _⟩
    · exact ⟨none, by simpa using e, rfl⟩
    · exact ⟨some ⟨b, off, none⟩, by simpa using e, rfl⟩
theorem run_equal_bool {t : Nat} (hu : P.underlying t = some .bool) (n m : Bool) : (Op.equal t (.bool n) (.bool m)).run P w = .ok (n == m) w := by
  show (Op.equalIn (9999 + 1) t _ _).run P w = _
  rw [Op.equalIn]
  simp [run_underlying hu]
theorem run_equal_nil1 {t e : Nat} (hu : P.underlying t = some (.pointer e)) (ad : Option Addr) : (Op.equal t (.pointer none) (.pointer ad)).run P w = .ok ad.isNone w := by
  show (Op.equalIn (9999 + 1) t _ _).run P w = _
  rw [Op.equalIn]
  simp [run_underlying hu]
theorem run_equal_nil2 {t e : Nat} (hu : P.underlying t = some (.pointer e)) (ad : Option Addr) : (Op.equal t (.pointer ad) (.pointer none)).run P w = .ok ad.isNone w := by
  show (Op.equalIn (9999 + 1) t _ _).run P w = _
  rw [Op.equalIn]
  cases ad <;> simp [run_underlying hu]
theorem ok_binOp (hT : TabOk P T) {op : BinOp} {t yt : Nat} {x y : Operand} (hd : ∀ d, dst = some d → d < N) : OpOk P C N rc i ⟨dst, .binOp op t x y yt, ty, pos, after, guard⟩
    (Prg.opt (T.get t) fun ti => opG x fun a => opG y fun b => (match ti.kind, a, b with
      | .int k, .one (.dat (.int k1) n), .one (.dat (.int k2) m) => (match and (Nat.beq (IK k1) (IK k)) (Nat.beq (IK k2) (IK k)) with | true => arithP op k n m fun v => putP ⟨dst, .binOp op t x y yt, ty, pos, after, guard⟩ v | false => .fail)
      | .bool, .one (.dat .bool n), .one (.dat .bool m) => nilP op (n == m) fun v => putP ⟨dst, .binOp op t x y yt, ty, pos, after, guard⟩ v
      | .str, .one (.dat .str n), .one (.dat .str m) => strP op n m fun v => putP ⟨dst, .binOp op t x y yt, ty, pos, after, guard⟩ v
      | .ptr _, .one .nilP, v => Prg.opt (isNilV v) fun c => nilP op c fun v => putP ⟨dst, .binOp op t x y yt, ty, pos, after, guard⟩ v
      | .ptr _, v, .one .nilP => Prg.opt (isNilV v) fun c => nilP op c fun v => putP ⟨dst, .binOp op t x y yt, ty, pos, after, guard⟩ v
      | _, _, _ => .fail)) := by
  intro G used st a w acc rs ws hr hf h K Q hK
  obtain ⟨ti, hti, h⟩ := runs_opt h
  obtain ⟨vx, acc1, h, hx, -⟩ := runs_opG hr h
  obtain ⟨vy, acc2, h, hy, -⟩ := runs_opG hr h
  split at h
  · rename_i k k1 n k2 m hk
    split at h
    · rename_i he
      simp only [Bool.and_eq_true] at he
      obtain rfl := IK_inj (Nat.eq_of_beq_eq_true he.1)
      obtain rfl := IK_inj (Nat.eq_of_beq_eq_true he.2)
      exact ok_binInt hd hr (dat_int hx) (dat_int hy) h hK
    · exact h.elim
  · have hu := hT.bool hti ‹_›
    have e1 := dat_bool hx
    have e2 := dat_bool hy
    refine ok_eqlOf hd hr ?_ ?_ h hK <;> simp [execOp, e1, e2, Go.binOp, eqGuard, run_equal_bool hu]
  · have e1 := dat_str hx
    have e2 := dat_str hy
    unfold strP at h
    split at h
    · exact fin_dat hd hr hK h (by simp [execOp, e1, e2, Go.binOp, eqGuard, Op.stringOp]; rfl) rfl
    · exact fin_dat hd hr hK h (by simp [execOp, e1, e2, Go.binOp, eqGuard, Op.stringOp]; rfl) rfl
    · exact fin_dat hd hr hK h (by simp [execOp, e1, e2, Go.binOp, eqGuard, Op.stringOp]; rfl) rfl
    · unfold Prg.Runs at h
      split at h
      · rename_i hl
        refine fin_dat hd hr hK h ?_ rfl
        have hl := of_decide_eq_true hl
        unfold LIM at hl
        have hs : ∀ n m : Nat, n + m ≤ 68719476736 → ¬ (9223372036854775807 < (n : Int) + (m : Int)) := fun n m h => by omega
        simp [execOp, e1, e2, Go.binOp, eqGuard, Op.stringOp, hs _ _ hl]
      · exact h.elim
    · exact h.elim
  · obtain ⟨c, hc, h⟩ := runs_opt h
    have hu := hT.ptr hti ‹_›
    have e1 : a.eval x = .pointer none := hx
    obtain ⟨ad, e2, hb⟩ := isNilV_rep hc hy
    refine ok_eqlOf hd hr ?_ ?_ h hK <;> cases ad <;> simp at hb <;> subst hb <;> simp [execOp, e1, e2, Go.binOp, eqGuard, run_equal_nil1 hu, run_equal_nil2 hu]
  · obtain ⟨c, hc, h⟩ := runs_opt h
    have hu := hT.ptr hti ‹_›
    have e2 : a.eval y = .pointer none := hy
    obtain ⟨ad, e1, hb⟩ := isNilV_rep hc hx
    refine ok_eqlOf hd hr ?_ ?_ h hK <;> cases ad <;> simp at hb <;> subst hb <;> simp [execOp, e1, e2, Go.binOp, eqGuard, run_equal_nil1 hu, run_equal_nil2 hu]
  · exact h.elim
theorem ok_unOp {op : UnOp} {t : Nat} {x : Operand} (hd : ∀ d, dst = some d → d < N) : OpOk P C N rc i ⟨dst, .unOp op t x, ty, pos, after, guard⟩
    (opG x fun v => (match op, v with
      | .not, .one (.dat .bool b) => putP ⟨dst, .unOp op t x, ty, pos, after, guard⟩ (.one (.dat .bool (!b)))
      | .neg, .one (.dat (.int k) n) => putP ⟨dst, .unOp op t x, ty, pos, after, guard⟩ (.one (.dat (.int k) (k.wrap (0 - n))))
      | _, _ => .fail)) := by
  intro G used st a w acc rs ws hr hf h K Q hK
  obtain ⟨v, acc1, h, hv, -⟩ := runs_opG hr h
  split at h
  · have e := dat_bool hv
    exact fin_dat hd hr hK h (by simp [execOp, e, Op.unary]) rfl
  · have e := dat_int hv
    exact fin_dat hd hr hK h (by simp only [execOp, e, Op.unary, Op.intArith]; rfl) rfl
  · exact h.elim
theorem ok_convert (hT : TabOk P T) {s t : Nat} {x : Operand} (hd : ∀ d, dst = some d → d < N) : OpOk P C N rc i ⟨dst, .convert s t x, ty, pos, after, guard⟩
    (Prg.opt (T.get s) fun si => Prg.opt (T.get t) fun ti => opG x fun v => (match si.kind, ti.kind, v with
      | .int _, .int k, .one (.dat (.int _) n) => putP ⟨dst, .convert s t x, ty, pos, after, guard⟩ (.one (.dat (.int k) (k.wrap n)))
      | _, _, _ => .fail)) := by
  intro G used st a w acc rs ws hr hf h K Q hK
  obtain ⟨si, hsi, h⟩ := runs_opt h
  obtain ⟨ti, hti, h⟩ := runs_opt h
  obtain ⟨v, acc1, h, hv, -⟩ := runs_opG hr h
  split at h
  · have e := dat_int hv
    have h1 := hT.int hsi ‹_›
    have h2 := hT.int hti ‹_›
    exact fin_dat hd hr hK h (by simp [execOp, e, Go.convert, run_underlying h1, run_underlying h2, Conv.intToInt]) rfl
  · exact h.elim
theorem ok_nilCheck {x : Operand} (hd : ∀ d, dst = some d → d < N) : OpOk P C N rc i ⟨dst, .nilCheck x, ty, pos, after, guard⟩
    (opG x fun v => (match v with
      | .one (.ref b off n) => putP ⟨dst, .nilCheck x, ty, pos, after, guard⟩ (.one (.ref b off n))
      | .one (.eptr t y) => putP ⟨dst, .nilCheck x, ty, pos, after, guard⟩ (.one (.eptr t y))
      | .one (.dat (.pt t) y) => .bind y fun z => putP ⟨dst, .nilCheck x, ty, pos, after, guard⟩ (.one (.eptr t z))
      | _ => .fail)) := by
  intro G used st a w acc rs ws hr hf h K Q hK
  obtain ⟨v, acc1, h, hv, -⟩ := runs_opG hr h
  split at h
  · obtain ⟨b, hb, e⟩ := hv
    exact fin_any hd hr hK h trivial (by simp [execOp, e]) ⟨b, hb, rfl⟩
  · obtain ⟨b, off, l, e, h1⟩ := hv
    exact fin_any hd hr hK h trivial (by simp [execOp, e]) ⟨b, off, l, rfl, h1⟩
  · obtain ⟨z, rfl, h⟩ := h
    rcases hv with ⟨e, _⟩ | ⟨y, b, off, l, e1, e2, h1⟩
    · cases e
    · cases e1
      have e : a.eval x = .pointer (some ⟨b, off, none⟩) := by simpa using e2
      exact fin_any hd hr hK h trivial (by simp [execOp, e]) ⟨b, off, l, rfl, h1.1, h1.2.1, h1.2.2⟩
  · exact h.elim
theorem ok_extract {x : Operand} {j : Nat} (hd : ∀ d, dst = some d → d < N) : OpOk P C N rc i ⟨dst, .extract x j, ty, pos, after, guard⟩
    (opG x fun v => (match v with | .tup vs => Prg.opt (vs[j]?) fun p => putP ⟨dst, .extract x j, ty, pos, after, guard⟩ (avOf p.1 p.2) | _ => .fail)) := by
  intro G used st a w acc rs ws hr hf h K Q hK
  obtain ⟨v, acc1, h, hv, -⟩ := runs_opG hr h
  split at h
  · rename_i vs
    obtain ⟨p, hp, h⟩ := runs_opt h
    obtain ⟨us, e, ha⟩ := hv
    obtain ⟨u, hu, hru⟩ := ha.get hp
    have hu' : us[j]? = some u := by simpa using hu
    have hru' : RepAV C G w none (avOf p.1 p.2) u := by
      cases hq : avOf p.1 p.2 <;> rw [hq] at hru <;> first | exact hru | exact hru.elim
    exact fin_any hd hr hK h (noOwn_of hru') (by simp [execOp, e, Instr.extract, hu']) hru'
  · exact h.elim
/-! ### addresses -/
theorem cells_one {v : Value} (h : v.oneCell' = true) : v.cells = #[v] := by cases v <;> first | rfl | cases h
theorem noAgg_leaf {at_ : Option Loc} {l : Leaf Ω} {v : Value} (h : RepL C G w at_ l v) (hd : l ≠ .dead) : v.oneCell' = true := by
  cases l with
  | dat t x =>
    have : ∀ {t : Ty} {x : El t} {u : List Value}, RepC w G.O t x u → ∀ v ∈ u, v.oneCell' = true := by
      intro t
      induction t with
      | pair a b ha hb =>
        rintro x u ⟨l, r, rfl, h1, h2⟩ v hv
        rcases List.mem_append.1 hv with hv | hv
        · exact ha h1 v hv
        · exact hb h2 v hv
      | st r ih => intro x u h v hv; exact ih h v hv
      | sl e _ => rintro x u ⟨ad, cap, rfl, _⟩ v hv; obtain rfl : v = _ := by simpa using hv
                  rfl
      | mp k v _ _ => rintro x u ⟨r, rfl, _⟩ v hv; obtain rfl : v = _ := by simpa using hv
                      rfl
      | pt t _ =>
        rintro x u (⟨_, rfl⟩ | ⟨y, b, off, l, _, rfl, _⟩) v hv
        · obtain rfl : v = _ := by simpa using hv
          rfl
        · obtain rfl : v = _ := by simpa using hv
          rfl
      | unit => rintro x u rfl v hv; cases hv
      | _ => rintro x u rfl v hv; obtain rfl : v = _ := by simpa using hv
             rfl
    exact this h v (by simp)
  | arr id e xs => obtain ⟨l, _, _, h⟩ := h; obtain ⟨ad, cap, rfl, _⟩ := h.header; rfl
  | omp id k vt m => obtain ⟨l, bs, _, _, h⟩ := h; obtain ⟨b, es, clock, rfl, _⟩ := h; rfl
  | ref id off n => obtain ⟨b, _, rfl⟩ := h; rfl
  | eptr t x => obtain ⟨b, off, l, rfl, _⟩ := h; rfl
  | aptr l id sz n off => obtain ⟨b, o, len, cap, bs, _, _, _, rfl⟩ := h; rfl
  | avw l id sz lo hi => obtain ⟨ad, len, cap, _, _, _, _, _, rfl⟩ := avw_inv (C := C) (w := w) (l := l) h; rfl
  | clo f caps => obtain ⟨bs, _, _, rfl⟩ := h; rfl
  | fnv => obtain ⟨f, x, y, e⟩ := C.fn; obtain rfl : v = C.val := h
           rw [e]; rfl
  | ent l id0 id j => obtain ⟨u, bs, n, _, _, _, rfl⟩ := h; rfl
  | opq s => exact h.elim
  | dead => exact absurd rfl hd
  | nilS => obtain rfl : v = .slice none 0 0 := h; rfl
  | nilM => obtain rfl : v = .map none := h; rfl
  | nilP => obtain rfl : v = .pointer none := h; rfl
  | ali l id => exact h.2
end
end Go.Proofs.Ytbgefphoochgcaa.FE
