/- FE, part 17: slices are made. -/
import Derived.Test.YtbgefphoochgcaaFeP
namespace Go.Proofs.Ytbgefphoochgcaa.FE
open Go
set_option linter.unusedVariables false
set_option linter.unusedSimpArgs false
section
variable {Ω : Type} {C : CloRep Ω} {P : Program} {T : Tab} {N : Nat}
variable {rc i : Nat} {dst : Option Nat} {ty : Nat} {pos : String} {after : Array Edge} {guard : Option (Nat × Bool)}
variable {G : Ghost} {used used' : Id → Prop} {st ws : S Ω} {a : Act} {w w' : World} {acc rs : List Loc} {o : Oper} {K : Act → World → Prop} {Q : Exit → Act → World → Prop}

theorem runs_putS {o : Oper} {own : Bool} {id : Id} {e : Ty} {xs : List (El e)} (h : (putS o own id e xs : Prg Ω).Runs st acc rs ws) : ∃ d, o.dst = some d ∧ ws = [(.tmp d, slV own id e xs)] := by
  unfold putS at h
  split at h
  · rename_i d hd; exact ⟨d, hd, h.1⟩
  · exact h.elim
/-- Owned, or data: as it is asked. -/
theorem Rep.ownOr {d : Nat} {id : Id} {e : Ty} {xs : List (El e)} (hr : Rep C G N used ([(.tmp d, .one (.arr id e xs))] ++ st) a w) (own : Bool) :
    ∃ G', Fr G.ρ w G'.ρ w ∧ Rep C G' N used ([(.tmp d, slV own id e xs)] ++ st) a w := by
  cases own with
  | true => exact ⟨G, Fr.refl _ _, hr⟩
  | false =>
    have hg : S.get ([(Loc.tmp d, AV.one (Leaf.arr id e xs))] ++ st) (.tmp d) = .one (.arr id e xs) := by simp [S.get, locB_self]
    obtain ⟨h1, _⟩ := hr.freezeArr hg
    refine ⟨_, (give_moves hr (.tmp d) none (fun e => by cases e)).fr, h1.congr fun l => ?_⟩
    by_cases e : Loc.tmp d = l
    · subst e; simp [slV, S.get, locB_self]
    · simp [slV, S.get, locB_ne e]
/-- A new row, that a slice stands for. -/
theorem fin_newSlice (hr : Rep C G N used st a w) (hf : ¬ used (rc, i, 0)) (hu : ∀ x, used x → used' x) (hi : used' (rc, i, 0)) {d : Nat} (hd : d < N) {c : Array Value} {el : Nat} (hp : Pushed w w' (.cells c el (0, 0))) {e : Ty} {ys : List (El e)} {cap : Nat} (hcap : ys.length ≤ cap) (hsz : cap * width e ≤ c.size)
    (hx : ∀ j (h : j < ys.length), ∃ vs, RepC w G.O e ys[j] vs ∧ ∀ i v, vs[i]? = some v → c[j * width e + i]? = some v) (own : Bool) :
    ∃ G', Fr G.ρ w G'.ρ w' ∧ Rep C G' N used' ([(.tmp d, slV own (rc, i, 0) e ys)] ++ st) (a.put (some d) (.slice (some ⟨w.heap.size, 0, none⟩) ys.length cap)) w' := by
  have hstep := new_step hr hp (some (.at_ (.tmp d))) (fun _ => False)
  obtain ⟨hfr, hrep⟩ := hr.newOwned hp hd hf hu hi (u := .one (.arr (rc, i, 0) e ys)) (v := .slice (some ⟨w.heap.size, 0, none⟩) ys.length cap) (bs := [])
    ⟨_, rfl, ⟨[], name_at⟩, .inr ⟨w.heap.size, 0, cap, c, el, rfl, hcap, new_at, hp.new, by omega, fun j hj => let ⟨vs, h1, h2⟩ := hx j hj; ⟨vs, h1.mono hstep.free, fun i v hi => by rw [Nat.zero_add]; exact h2 i v hi⟩⟩⟩
  obtain ⟨G', h1, h2⟩ := hrep.ownOr own
  exact ⟨G', hfr.trans h1, h2⟩
theorem fin_nilSlice (hr : Rep C G N used st a w) (hf : ¬ used (rc, i, 0)) (hu : ∀ x, used x → used' x) (hi : used' (rc, i, 0)) {d : Nat} (hd : d < N) {e : Ty} (own : Bool) :
    ∃ G', Fr G.ρ w G'.ρ w ∧ Rep C G' N used' ([(.tmp d, slV own (rc, i, 0) e ([] : List (El e)))] ++ st) (a.put (some d) (.slice none 0 0)) w := by
  have h1 := hr.name hf (.slice none 0 0) [] hu hi
  have h2 := h1.put hd (u := .one (.arr (rc, i, 0) e ([] : List (El e)))) (v := .slice none 0 0) ⟨_, rfl, ⟨[], name_at⟩, .inl ⟨rfl, rfl⟩⟩
  obtain ⟨G', h3, h4⟩ := Rep.ownOr (st := st) h2 own
  exact ⟨G', (name_step hr hf (.slice none 0 0) [] (fun _ => False)).fr.trans h3, h4⟩

/-! ### literals -/
theorem elemsP_runs {e : Ty} {place : Nat → Option (Nat × Nat)} (hpl : ∀ j, place j = some (j * width e, width e)) :
    ∀ (ps : List (Nat × Operand)) (n0 : Nat) (cells : Array Value) {G : Ghost} {st : S Ω} {f : List (El e) → Prg Ω} {acc : List Loc} {ws : List (Loc × AV Ω)}, Rep C G N used st a w → (n0 + ps.length) * width e ≤ cells.size → (elemsP e n0 ps f).Runs st acc rs ws →
      ∃ ys ws' ws2 acc' G1 cells', ws = ws2 ++ ws' ∧ (f ys).Runs (ws' ++ st) acc' rs ws2 ∧ Moves G w G1 ∧ Rep C G1 N used (ws' ++ st) a w ∧ ys.length = ps.length ∧
        Instr.fill place cells (opsV a ps) = some cells' ∧ cells'.size = cells.size ∧ (∀ j, j < n0 * width e → cells'[j]? = cells[j]?) ∧
        ∀ j (h : j < ys.length), ∃ vs, RepC w G1.O e ys[j] vs ∧ ∀ i v, vs[i]? = some v → cells'[(n0 + j) * width e + i]? = some v := by
  intro ps
  induction ps with
  | nil => intro n0 cells G st f acc ws hr _ h; exact ⟨[], [], ws, acc, G, cells, by simp, h, Step.refl' hr _, hr, rfl, rfl, rfl, fun _ _ => rfl, fun j hj => by simp at hj⟩
  | cons q ps ih =>
    obtain ⟨j0, x⟩ := q
    intro n0 cells G st f acc ws hr hle h
    simp only [List.length_cons] at hle
    have hmul : (n0 + (ps.length + 1)) * width e = n0 * width e + width e + ps.length * width e := by
      rw [Nat.add_mul, Nat.add_mul, Nat.one_mul]; omega
    have h' : Prg.Runs st (match Nat.beq n0 j0 with
      | true => opG x fun v => freeze x v fun u => match fitsV u (width e) with
        | true => Prg.opt (packAll e (leavesOf u)) fun y => elemsP e (n0 + 1) ps fun ys => f (y :: ys)
        | false => .fail
      | false => .fail) acc rs ws := h
    split at h'
    · rename_i hj
      obtain rfl := Nat.eq_of_beq_eq_true hj
      obtain ⟨v, acc1, h', hv, hs⟩ := runs_opG hr h'
      obtain ⟨u, ws', ws2, acc2, G1, rfl, h', hm, _, _, hr1, hu, hn⟩ := runs_freeze hr hv hs h'
      split at h'
      · rename_i hfit
        obtain ⟨y, hy, h'⟩ := runs_opt h'
        obtain ⟨hsz, hlen⟩ := fitsV_iff hfit
        have hlv := leaves_rep hu hsz
        have hlvl := hlv.length
        have hyr := packAll_rep (C := C) hy hlv
        have hc : (a.eval x).cells.size = width e := by
          have : (a.eval x).cells.toList.length = (a.eval x).cells.size := Array.length_toList
          omega
        have hsp := splice_eq (cells := cells) (v := (a.eval x).cells) (off := n0 * width e) (by omega)
        have hspl : (cells.toList.take (n0 * width e) ++ (a.eval x).cells.toList ++ cells.toList.drop (n0 * width e + (a.eval x).cells.size)).toArray = spl cells (n0 * width e) (a.eval x).cells.toList := by
          simp [spl]
        have hin : n0 * width e + (a.eval x).cells.toList.length ≤ cells.size := by rw [Array.length_toList]; omega
        have hss : (spl cells (n0 * width e) (a.eval x).cells.toList).size = cells.size := spl_size hin
        obtain ⟨ys, ws3, ws4, acc3, G2, cells', rfl, h', hm2, hr2, hl, hfill, hcs, hlow, hx⟩ := ih (n0 + 1) (spl cells (n0 * width e) (a.eval x).cells.toList) hr1 (by rw [hss, Nat.add_right_comm, Nat.add_assoc]; exact hle) h'
        refine ⟨y :: ys, ws3 ++ ws', ws4, acc3, G2, cells', by simp, by rw [List.append_assoc]; exact h', hm.moves hm2, by rw [List.append_assoc]; exact hr2, by simp [hl], ?_, by rw [hcs, hss], fun j hj => ?_, fun j hj => ?_⟩
        · show Instr.fill place cells ((n0, a.eval x) :: opsV a ps) = _
          simp only [Instr.fill, hpl]
          rw [if_neg (by simp [hc]; omega)]
          rw [← hfill, ← hspl, ← hsp]
        · rw [hlow j (by rw [Nat.add_mul]; omega), spl_get hin, if_neg (by omega)]
        · cases j with
          | zero =>
            refine ⟨_, hyr.mono hm2.free, fun i v hi => ?_⟩
            have hi' : i < width e := by
              have := (List.getElem?_eq_some_iff.1 hi).1
              rw [Array.length_toList, hc] at this
              exact this
            simp only [Nat.add_zero]
            rw [hlow _ (by rw [Nat.add_mul]; omega), spl_get hin, if_pos (by rw [Array.length_toList]; omega), show n0 * width e + i - n0 * width e = i by omega]
            exact hi
          | succ j =>
            obtain ⟨vs, h1, h2⟩ := hx j (by simpa using hj)
            exact ⟨vs, h1, fun i v hi => by rw [show n0 + (j + 1) = n0 + 1 + j by omega]; exact h2 i v hi⟩
      · exact h'.elim
    · exact h'.elim
theorem ok_buildSlice (hT : TabOk P T) {t n : Nat} {parts : Array (Nat × Operand)} {own : Bool} (hd : ∀ d, dst = some d → d < N) : OpOk P C N rc i ⟨dst, .buildSlice t n parts, ty, pos, after, guard⟩
    (Prg.opt (T.get t) fun ti => (match ti.kind, ti.ty with
      | .sl et, .sl e => (match Nat.beq n parts.size, Nat.ble (n * width e) 16777216 with
        | true, true => elemsP e 0 parts.toList fun ys => putS ⟨dst, .buildSlice t n parts, ty, pos, after, guard⟩ own (rc, i, 0) e ys
        | _, _ => .fail)
      | _, _ => .fail)) := by
  intro G used st a w acc rs ws hr hf h K Q hK
  obtain ⟨ti, hti, h⟩ := runs_opt h
  split at h
  · rename_i et e hk hty
    obtain ⟨hu, hz⟩ := hT.sl hti hk
    obtain ⟨j, z, hj, hjs, _, hjz, hzc, _⟩ := zeroB_spec (hz e hty)
    split at h
    · rename_i hn hle
      obtain rfl := Nat.eq_of_beq_eq_true hn
      have hle := Nat.le_of_ble_eq_true hle
      have hcells : ((Array.range (parts.size * width e)).map (z.cells[· % z.cells.size]!)).size = parts.size * width e := by simp
      obtain ⟨ys, ws', ws2, acc', G1, cells', rfl, h, hm, hr1, hl, hfill, hcs, _, hx⟩ := elemsP_runs (place := fun i => some (i * width e, width e)) (fun _ => rfl) parts.toList 0 ((Array.range (parts.size * width e)).map (z.cells[· % z.cells.size]!)) hr (by rw [hcells]; simp) h
      obtain ⟨d, hdst, rfl⟩ := runs_putS h
      obtain rfl : dst = some d := hdst
      have hl' : ys.length = parts.size := by simpa using hl
      have hfill' : Instr.fill (fun i => some (i * width e, width e)) ((Array.range (parts.size * width e)).map (z.cells[· % z.cells.size]!)) (parts.map fun (p : Nat × Operand) => (p.1, a.eval p.2)).toList = some cells' := by
        rw [← hfill]; simp [opsV]
      rw [Array.toList_map] at hfill'
      have hp := Pushed.alloc w (.cells cells' et)
      obtain ⟨G', hfr, hrep⟩ := fin_newSlice (used' := usedAt used rc i) hr1 (hf 0) (fun _ h => .inl h) (.inr ⟨0, rfl⟩) (hd d rfl) hp (e := e) (ys := ys) (cap := ys.length) (Nat.le_refl _) (by rw [hcs, hcells, hl']; omega) (fun j hj => by
        obtain ⟨vs, h1, h2⟩ := hx j hj
        exact ⟨vs, h1, fun i v hi => by have := h2 i v hi; rwa [Nat.zero_add] at this⟩) own
      refine wp_value (v := .slice (some ⟨w.heap.size, 0, none⟩) ys.length ys.length) (w' := w.alloc (.cells cells' et)) ?_ (hK_step hm.fr hK _ _ _ hfr hrep)
      have hnl : ¬ (16777216 < parts.size * width e) := by omega
      have hnl' : ¬ (2 ^ 24 < parts.size * width e) := by simpa using hnl
      by_cases h0 : parts.size * width e = 0
      · have e0 : ((Array.range (parts.size * width e)).map (z.cells[· % z.cells.size]!)) = #[] := by rw [h0]; simp
        rw [e0] at hfill'
        have e1 : Array.map (fun (_ : Nat) => (default : Value)) (Array.range 0) = #[] := by simp
        simp only [execOp, Instr.buildSlice, Sem.run_bind, run_underlying hu, Result.andThen_ok]
        simp [sizeOf, typeInfo, hj, hjs, h0, newRow, hl']
        rw [e1, hfill']
        rfl
      · simp only [execOp, Instr.buildSlice, Sem.run_bind, run_underlying hu, Result.andThen_ok]
        simp [sizeOf, typeInfo, hj, hjs, zeroValue, hjz, hnl, hnl', h0, hfill', newRow, hl']
    · exact h.elim
  · exact h.elim
end
end Go.Proofs.Ytbgefphoochgcaa.FE
