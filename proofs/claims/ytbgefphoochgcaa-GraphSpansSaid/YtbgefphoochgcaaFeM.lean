/- FE, part 13: structs are built. -/
import Derived.Test.YtbgefphoochgcaaFeL
namespace Go.Proofs.Ytbgefphoochgcaa.FE
open Go
set_option linter.unusedVariables false
set_option linter.unusedSimpArgs false
section
variable {Ω : Type} {C : CloRep Ω} {P : Program} {T : Tab} {N : Nat}
variable {rc i : Nat} {dst : Option Nat} {ty : Nat} {pos : String} {after : Array Edge} {guard : Option (Nat × Bool)}
variable {G : Ghost} {used : Id → Prop} {st ws : S Ω} {a : Act} {w : World} {acc rs : List Loc} {o : Oper} {K : Act → World → Prop} {Q : Exit → Act → World → Prop}

theorem foldl_set (off : Nat) : ∀ (vs : List Value) (k : Nat) (cells : Array Value) (i : Nat),
    ((vs.zipIdx k).foldl (fun (cs : Array Value) (p : Value × Nat) => cs.setIfInBounds (off + p.2) p.1) cells)[i]? = if off + k ≤ i ∧ i < off + k + vs.length ∧ i < cells.size then vs[i - off - k]? else cells[i]?
  | [], k, cells, i => by simp; omega
  | v :: vs, k, cells, i => by
    simp only [List.zipIdx_cons, List.foldl_cons]
    rw [foldl_set off vs (k + 1) _ i]
    simp only [Array.size_setIfInBounds, List.length_cons]
    by_cases h1 : i = off + k
    · subst h1
      by_cases h2 : off + k < cells.size
      · simp [h2, Array.getElem?_setIfInBounds]
        intro h; omega
      · simp [h2, Array.getElem?_setIfInBounds]
    · by_cases h2 : off + (k + 1) ≤ i ∧ i < off + (k + 1) + vs.length ∧ i < cells.size
      · rw [if_pos h2, if_pos (by omega)]
        rw [show i - off - k = (i - off - (k + 1)) + 1 by omega]
        simp
      · rw [if_neg h2, if_neg (by omega), Array.getElem?_setIfInBounds_ne (by omega)]
theorem splice_eq {cells : Array Value} {v : Array Value} {off : Nat} (h : off + v.size ≤ cells.size) :
    v.zipIdx.foldl (fun (cs : Array Value) (p : Value × Nat) => cs.setIfInBounds (off + p.2) p.1) cells = (cells.toList.take off ++ v.toList ++ cells.toList.drop (off + v.size)).toArray := by
  apply Array.ext_getElem?
  intro i
  rw [← Array.foldl_toList, Array.toList_zipIdx, foldl_set off v.toList 0 cells i]
  simp only [List.getElem?_toArray, Nat.add_zero, Array.length_toList, Nat.sub_zero]
  have hl : (cells.toList.take off).length = off := by simp; omega
  rw [List.append_assoc, List.getElem?_append, hl]
  by_cases h1 : i < off
  · rw [if_neg (by omega), if_pos h1, List.getElem?_take, if_pos h1]; simp
  · rw [if_neg h1, List.getElem?_append]
    simp only [Array.length_toList]
    by_cases h2 : i - off < v.size
    · rw [if_pos (by omega), if_pos h2]
    · rw [if_neg (by omega), if_neg h2, List.getElem?_drop]
      rw [show off + v.size + (i - off - v.size) = i by omega]
      simp
def opsV (a : Act) (ps : List (Nat × Operand)) : List (Nat × Value) := ps.map fun p => (p.1, a.eval p.2)
theorem all2_length' {ls : List (Leaf Ω)} {l : List Value} (h : All2 (RepL C G w none) ls l) : ls.length = l.length := h.length
theorem buildP_runs {fs : List (Nat × Nat)} {place : Nat → Option (Nat × Nat)} (hp : ∀ (j : Nat) (p : Nat × Nat) (fi : TI), fs[j]? = some p → T.get p.2 = some fi → place j = some (p.1, fi.size)) :
    ∀ (ps : List (Nat × Operand)) {G : Ghost} {st : S Ω} {ls : List (Leaf Ω)} {l : List Value} {f : List (Leaf Ω) → Prg Ω} {acc : List Loc} {ws : List (Loc × AV Ω)}, Rep C G N used st a w → All2 (RepL C G w none) ls l → (buildP T fs ps ls f).Runs st acc rs ws →
      ∃ ls' ws' ws2 acc' G1 l', ws = ws2 ++ ws' ∧ (f ls').Runs (ws' ++ st) acc' rs ws2 ∧ Moves G w G1 ∧ Rep C G1 N used (ws' ++ st) a w ∧ All2 (RepL C G1 w none) ls' l' ∧
        Instr.fill place l.toArray (opsV a ps) = some l'.toArray := by
  intro ps
  induction ps with
  | nil => intro G st ls l f acc ws hr ha h; exact ⟨ls, [], ws, acc, G, l, by simp, h, Step.refl' hr _, hr, ha, rfl⟩
  | cons q ps ih =>
    obtain ⟨j, x⟩ := q
    intro G st ls l f acc ws hr ha h
    obtain ⟨p, hpj, h⟩ := runs_opt h
    obtain ⟨fi, hfi, h⟩ := runs_opt h
    obtain ⟨v, acc1, h, hv, hs⟩ := runs_opG hr h
    obtain ⟨u, ws', ws2, acc2, G1, rfl, h, hm, _, _, hr1, hu, hn⟩ := runs_freeze hr hv hs h
    split at h
    · rename_i hfit
      rw [Bool.and_eq_true] at hfit
      obtain ⟨hsz, hlen⟩ := fitsV_iff hfit.1
      have hle := Nat.le_of_ble_eq_true hfit.2
      have hlv := leaves_rep hu hsz
      have ha1 : All2 (RepL C G1 w none) ls l := ha.mono fun _ _ hh => RepL.step hm (fun _ e => by cases e) hh
      have hll := ha1.length
      have hlvl := hlv.length
      have ha2 := ((ha1.take p.1).append hlv).append (ha1.drop (p.1 + fi.size))
      obtain ⟨ls', ws3, ws4, acc3, G2, l', rfl, h, hm2, hr2, ha3, hf⟩ := ih hr1 ha2 h
      refine ⟨ls', ws3 ++ ws', ws4, acc3, G2, l', by simp, by rw [List.append_assoc]; exact h, hm.moves hm2, by rw [List.append_assoc]; exact hr2, ha3, ?_⟩
      have hc : (a.eval x).cells.size = fi.size := by
        have : (a.eval x).cells.toList.length = (a.eval x).cells.size := Array.length_toList
        omega
      show Instr.fill place l.toArray ((j, a.eval x) :: opsV a ps) = _
      simp only [Instr.fill, hp j p fi hpj hfi]
      rw [if_neg (by simp [hc]; omega)]
      have := splice_eq (cells := l.toArray) (v := (a.eval x).cells) (off := p.1) (by simp [hc]; omega)
      simp only [hc] at this
      rw [← hf]
      congr 1
    · exact h.elim
theorem run_places' {P : Program} : ∀ {gs : List Field} {fs : List (Nat × Nat)}, fieldsB P gs fs = true → ∃ places, gs.mapM (fun f => (P.info? f.type).map fun i => (f.offset, i.size)) = some places ∧
    ∀ (j : Nat) (p : Nat × Nat), fs[j]? = some p → ∀ i, P.info? p.2 = some i → places[j]? = some (p.1, i.size)
  | [], [], _ => ⟨[], rfl, fun j p h => by simp at h⟩
  | g :: gs, q :: fs, h => by
    simp only [fieldsB, Bool.and_eq_true] at h
    obtain ⟨h1, h2, h3, h4⟩ := h
    obtain ⟨places, hp, hx⟩ := run_places' h4
    obtain ⟨jf, hj, _⟩ := cellsOf_info (Nat.blt_eq.mp h3)
    refine ⟨(g.offset, jf.size) :: places, by simp [List.mapM_cons, hj, hp], fun j p hpj i hi => ?_⟩
    cases j with
    | zero =>
      obtain rfl : q = p := by simpa using hpj
      have e1 := Nat.eq_of_beq_eq_true h1
      have e2 := Nat.eq_of_beq_eq_true h2
      rw [← e2, hj] at hi
      cases hi
      simp [e1]
    | succ j => simpa using hx j p (by simpa using hpj) i hi
  | [], _ :: _, h => by cases h
  | _ :: _, [], h => by cases h
theorem ok_build (hT : TabOk P T) {t : Nat} {parts : Array (Nat × Operand)} (hd : ∀ d, dst = some d → d < N) : OpOk P C N rc i ⟨dst, .build t parts, ty, pos, after, guard⟩
    (Prg.opt (T.get t) fun ti => (match ti.kind, ti.ty with
      | .st fs, .st _ => buildP T fs parts.toList (zeroLeaf ti.ty) fun ls => (match Nat.beq ls.length ti.size with | true => putP ⟨dst, .build t parts, ty, pos, after, guard⟩ (.agg ls) | false => .fail)
      | _, _ => .fail)) := by
  intro G used st a w acc rs ws hr hf h K Q hK
  obtain ⟨ti, hti, h⟩ := runs_opt h
  split at h
  · rename_i fs r hk hty
    obtain ⟨gs, hu, hfb⟩ := hT.st hti hk
    obtain ⟨places, hpl, hpx⟩ := run_places' hfb
    have hz := zeroLeaf_rep (C := C) (G := G) (w := w) ti.ty
    obtain ⟨ls', ws', ws2, acc', G1, l', rfl, h, hm, hr1, ha, hfill⟩ := buildP_runs (place := fun j => places[j]?) (fun j p fi hj hfi => by
      obtain ⟨k, hk, hks⟩ := hT.info hfi
      rw [hpx j p hj k hk, hks]) parts.toList hr hz h
    split at h
    · rename_i hlen
      have hlen := Nat.eq_of_beq_eq_true hlen
      · obtain ⟨hz1, _⟩ := hT.zero hti (by rw [hty]; simp)
        obtain ⟨k, z, hki, hks, _, hkz, hzc, hza⟩ := zeroB_spec hz1
        have hb : P.built t (parts.map fun (p : Nat × Operand) => (p.1, a.eval p.2)).toList = some l'.toArray := by
          have e1 : z.cells = (zeroCells ti.ty).toArray := by rw [← hzc]
          have e2 : (parts.map fun (p : Nat × Operand) => (p.1, a.eval p.2)).toList = opsV a parts.toList := by simp [opsV]
          rw [e2]
          simp only [Program.built, hki, hu, hkz, hpl, e1]
          rw [← hfill]
          simp
        refine fin_any (u := .agg ls') hd hr1 (hK_step hm.fr hK) h trivial (v := .agg l'.toArray) ?_ ⟨l'.toArray, rfl, by simpa using ha⟩
        have := run_build w t (parts.map fun (p : Nat × Operand) => (p.1, a.eval p.2)) _ hb
        simp [execOp, this]
    · exact h.elim
  · exact h.elim
end
end Go.Proofs.Ytbgefphoochgcaa.FE
