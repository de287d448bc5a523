/- FE, part 18b: clear. -/
import Derived.Test.YtbgefphoochgcaaFeR
namespace Go.Proofs.Ytbgefphoochgcaa.FE
open Go
set_option linter.unusedVariables false
set_option linter.unusedSimpArgs false
section
variable {Ω : Type} {C : CloRep Ω} {P : Program} {T : Tab} {N : Nat}
variable {rc i : Nat} {dst : Option Nat} {ty : Nat} {pos : String} {after : Array Edge} {guard : Option (Nat × Bool)}
variable {G : Ghost} {used used' : Id → Prop} {st ws : S Ω} {a : Act} {w w' : World} {acc rs : List Loc} {o : Oper} {K : Act → World → Prop} {Q : Exit → Act → World → Prop}
/-- Several elements are stored into an owned slice, in a row. -/
theorem Rep.storeRun (hr : Rep C G N used st a w) {l : Loc} {id : Id} {e : Ty} {xs : List (El e)} (hl : st.get l = .one (.arr id e xs)) {b o len cap : Nat} {bs : List Nat} {k : Nat} (hΓ : G.Γ id = some (.slice (some ⟨b, o, none⟩) len cap, bs))
    {ys : List (El e)} {L : List Value} (hk : k + ys.length ≤ xs.length) (hne : ys ≠ []) (hf : Flat w G.O e ys L) :
    ∃ c el, w.heap[b]? = some (.cells c el (0, 0)) ∧ o + k * width e + L.length ≤ c.size ∧ Fr G.ρ w G.ρ (w.setRow b (spl c (o + k * width e) L)) ∧
      Rep C G N used ([(l, .one (.arr id e (xs.take k ++ ys ++ xs.drop (k + ys.length))))] ++ st) a (w.setRow b (spl c (o + k * width e) L)) := by
  have hpos : 0 < ys.length := List.length_pos_iff.2 hne
  have ha := ali_arr hr ⟨bs, hΓ⟩ hl (idB_iff.2 rfl)
  rcases ha with ⟨rfl, _⟩ | ⟨b2, o2, cap2, c, el, ev, hcap, hρ, hh, hsz, hx⟩
  · have : ys.length ≤ 0 := by simpa using Nat.le_trans (Nat.le_add_left _ _) hk
    omega
  cases ev
  have hkw : k * width e + ys.length * width e ≤ cap * width e := by
    have : (k + ys.length) * width e ≤ cap * width e := Nat.mul_le_mul_right _ (by omega)
    rw [Nat.add_mul] at this; omega
  have hin : o + k * width e + L.length ≤ c.size := by rw [hf.len]; omega
  have hs1 := setRow_step hr hρ hh (spl_size hin) (L := fun l' => inL l' [l] = true) (fun l' h => by cases h; simp [inL, locB_self]) (fun id' h => by cases h) (by simp) (by simp)
  refine ⟨c, el, hh, hin, hs1.fr, ?_⟩
  refine Rep.step (ws := [(l, .one (.arr id e (xs.take k ++ ys ++ xs.drop (k + ys.length))))]) hr hs1 (fun l' hl' => ?_) (fun _ _ => rfl) hr.size hr.defers (fun _ _ _ h => .inl h) hr.usedΓ hr.usedβ
  obtain rfl : l' = l := by simpa [inL_iff] using hl'
  have hg : S.get [(l', AV.one (Leaf.arr (Ω := Ω) id e (xs.take k ++ ys ++ xs.drop (k + ys.length))))] l' = .one (.arr id e (xs.take k ++ ys ++ xs.drop (k + ys.length))) := by simp [S.get, locB_self]
  rw [hg]
  have hat := hr.at_ l'
  rw [hl] at hat
  have hlen : (xs.take k ++ ys ++ xs.drop (k + ys.length)).length = xs.length := by simp; omega
  have key : ∀ v, RepL C G w (some l') (.arr id e xs) v → RepL C G (w.setRow b (spl c (o + k * width e) L)) (some l') (.arr id e (xs.take k ++ ys ++ xs.drop (k + ys.length))) v := by
    rintro v ⟨l2, e0, ⟨bs', hΓ'⟩, _⟩
    cases e0
    rw [hΓ] at hΓ'
    cases hΓ'
    refine ⟨_, rfl, ⟨bs, hΓ⟩, .inr ⟨b, o, cap, _, el, by rw [hlen], by rw [hlen]; exact hcap, hρ, setRow_heap w b _ _ _ _ hh, by rw [spl_size hin]; exact hsz, fun j hj => ?_⟩⟩
    have hj' : j < xs.length := by rw [← hlen]; exact hj
    have out : ∀ us : List Value, us.length = width e → (j < k ∨ k + ys.length ≤ j) → (∀ i v, us[i]? = some v → c[o + j * width e + i]? = some v) → ∀ i v, us[i]? = some v → (spl c (o + k * width e) L)[o + j * width e + i]? = some v := by
      intro us hus hjk hau i v hi
      have hi' : i < width e := by rw [← hus]; exact (List.getElem?_eq_some_iff.1 hi).1
      rw [spl_get hin, if_neg]
      · exact hau i v hi
      · rintro ⟨h1, h2⟩
        rw [hf.len] at h2
        rcases hjk with h | h
        · have : (j + 1) * width e ≤ k * width e := Nat.mul_le_mul_right _ h
          rw [Nat.add_mul] at this
          omega
        · have : (k + ys.length) * width e ≤ j * width e := Nat.mul_le_mul_right _ h
          rw [Nat.add_mul] at this
          omega
    by_cases h1 : j < k
    · obtain ⟨us, hru, hau⟩ := hx j hj'
      refine ⟨us, ?_, out us (RepC_len hru) (.inl h1) hau⟩
      have : (xs.take k ++ ys ++ xs.drop (k + ys.length))[j] = xs[j] := by
        rw [List.getElem_append_left (by simp; omega), List.getElem_append_left (by simp; omega), List.getElem_take]
      rw [this]
      exact hru.mono hs1.free
    · by_cases h2 : j < k + ys.length
      · obtain ⟨us, hru, hau⟩ := hf.el (j - k) (by omega)
        refine ⟨us, ?_, fun i v hi => ?_⟩
        · have : (xs.take k ++ ys ++ xs.drop (k + ys.length))[j] = ys[j - k] := by
            rw [List.getElem_append_left (by simp; omega), List.getElem_append_right (by simp; omega)]
            congr 1
            simp; omega
          rw [this]
          exact hru.mono hs1.free
        · have hi' : i < width e := by rw [← RepC_len hru]; exact (List.getElem?_eq_some_iff.1 hi).1
          have hv := hau i v hi
          have e1 : j * width e = k * width e + (j - k) * width e := by rw [← Nat.add_mul]; congr 1; omega
          have hlt := (List.getElem?_eq_some_iff.1 hv).1
          rw [spl_get hin, if_pos ⟨by omega, by omega⟩, show o + j * width e + i - (o + k * width e) = (j - k) * width e + i by omega]
          exact hv
      · obtain ⟨us, hru, hau⟩ := hx j hj'
        refine ⟨us, ?_, out us (RepC_len hru) (.inr (by omega)) hau⟩
        have : (xs.take k ++ ys ++ xs.drop (k + ys.length))[j] = xs[j] := by
          rw [List.getElem_append_right (by simp; omega), List.getElem_drop]
          congr 1
          simp; omega
        rw [this]
        exact hru.mono hs1.free
  cases l' with
  | tmp t => exact key _ hat
  | comp t i =>
    rcases hat with h | ⟨v, h⟩
    · cases h
    · exact .inr ⟨v, key v h⟩
  | box id' j =>
    rcases hat with h | ⟨b', n', v, hb, hc, h⟩
    · cases h
    · have hne : b' ≠ b := by
        intro e; subst e
        rw [(hr.box id' b' n' hb).1] at hρ
        cases hρ
      exact .inr ⟨b', n', v, hb, (cell_setRow_other w b _ _ hne).trans hc, key v h⟩
  | om => rcases hat with h | ⟨s, h, _⟩ <;> cases h
theorem zeros_flat {O : Nat → Prop} {e : Ty} {z : Value} (hz : z.cells.toList = zeroCells e) (n : Nat) : Flat w O e (List.replicate n (zeroEl e)) (Builtin.zeroCells z.cells n).toList := by
  have hzs : z.cells.size = width e := by
    have := congrArg List.length hz
    rw [Array.length_toList] at this
    rw [this, RepC_len (RepC_zero (w := w) (O := fun _ => False) e)]
  refine ⟨by simp [Builtin.zeroCells, hzs], fun j hj => ⟨zeroCells e, by rw [List.getElem_replicate]; exact RepC_zero e, fun i v hi => ?_⟩, fun v hv => ?_⟩
  · rw [List.length_replicate] at hj
    have hi' : i < width e := by
      have := (List.getElem?_eq_some_iff.1 hi).1
      rw [RepC_len (RepC_zero (w := w) (O := fun _ => False) e)] at this
      exact this
    have hlt : j * width e + i < n * z.cells.size := by
      rw [hzs]
      have h1 : (j + 1) * width e ≤ n * width e := Nat.mul_le_mul_right _ (by omega)
      rw [Nat.add_mul, Nat.one_mul] at h1
      omega
    have hmod : (j * width e + i) % z.cells.size = i := by
      rw [hzs, Nat.mul_comm, Nat.mul_add_mod, Nat.mod_eq_of_lt hi']
    have hzi : z.cells[i]? = some v := by rw [← Array.getElem?_toList, hz]; exact hi
    have hg : z.cells[i]! = v := by rw [getElem!_def, hzi]
    simp [Builtin.zeroCells, hlt, hmod, hg]
  · simp only [Builtin.zeroCells, Array.toList_map, Array.toList_range, List.mem_map, List.mem_range] at hv
    obtain ⟨i, hi, rfl⟩ := hv
    have hpos : 0 < z.cells.size := by
      rcases Nat.eq_zero_or_pos z.cells.size with h | h
      · rw [h] at hi; omega
      · exact h
    have hlt := Nat.mod_lt i hpos
    have hg : z.cells[i % z.cells.size]! = z.cells[i % z.cells.size] := by rw [getElem!_def, Array.getElem?_eq_getElem hlt]
    rw [hg]
    refine RepC_one (RepC_zero (w := w) (O := fun _ => False) e) _ ?_
    rw [← hz]
    exact Array.getElem_mem_toList hlt
theorem cut_spec {α : Type} {xs ys : List α} {lo hi : Int} (h : cut xs lo hi = some ys) : 0 ≤ lo ∧ lo ≤ hi ∧ hi ≤ (xs.length : Int) ∧ ys = (xs.take hi.toNat).drop lo.toNat := by
  unfold cut at h
  split at h
  · rename_i hb
    simp only [Bool.and_eq_true, decide_eq_true_eq] at hb
    cases h
    exact ⟨hb.1, hb.2.1, hb.2.2, rfl⟩
  · cases h
theorem ok_clear (hT : TabOk P T) {c : Call} (hc : c.callee = .builtin .clear) : OpOk P C N rc i ⟨dst, .call c, ty, pos, after, guard⟩
    (match c.args.toList, c.argTypes.toList, dst with
      | [x], [t], none => Prg.opt (T.get t) fun ti => (match ti.kind, ti.ty with
        | .sl _, .sl E => opG x fun v => (match v with
          | .one (.avw l id sz lo hi) => .get l fun u => (match u with
            | .one (.arr id' e xs) => (match and (idB id id') (and (Nat.beq sz (width e)) (E.beq e)) with
              | true => .bind (cut xs lo hi) fun ys => .done [(l, .one (.arr id' e (xs.take lo.toNat ++ List.replicate ys.length (zeroEl e) ++ xs.drop hi.toNat)))]
              | false => .fail)
            | _ => .fail)
          | _ => .fail)
        | _, _ => .fail)
      | _, _, _ => .fail) := by
  intro G used st a w acc rs ws hr hf h K Q hK
  split at h
  · rename_i x t ha ht
    obtain ⟨ti, hti, h⟩ := runs_opt h
    split at h
    · rename_i et E hk hty
      obtain ⟨hu, hz⟩ := hT.sl hti hk
      obtain ⟨j, z, hj, hjs, hjb, hjz, hzc, _⟩ := zeroB_spec (hz E hty)
      obtain ⟨v, acc1, h, hv, -⟩ := runs_opG hr h
      split at h
      · rename_i l id sz lo hi
        have h' : Prg.Runs st (match st.get l with
            | .one (.arr id' e xs) => (match and (idB id id') (and (Nat.beq sz (width e)) (E.beq e)) with
              | true => .bind (cut xs lo hi) fun ys => .done [(l, .one (.arr id' e (xs.take lo.toNat ++ List.replicate ys.length (zeroEl e) ++ xs.drop hi.toNat)))]
              | false => .fail)
            | _ => .fail) (l :: acc1) rs ws := h
        split at h'
        · rename_i id' e xs hl
          split at h'
          · rename_i hb
            rw [Bool.and_eq_true, Bool.and_eq_true] at hb
            obtain ⟨h1, h2, h3⟩ := hb
            obtain rfl := idB_iff.1 h1
            obtain rfl := Nat.eq_of_beq_eq_true h2
            obtain rfl := Ty.eq_of_beq h3
            obtain ⟨ys, hy, h'⟩ := h'
            obtain ⟨rfl, -⟩ := h'
            obtain ⟨k0, k1, k2, rfl⟩ := cut_spec hy
            have hv' : RepL C G w none (.avw l id (width E) lo hi : Leaf Ω) (a.eval x) := (hv : RepL C G w (opLoc x) (.avw l id (width E) lo hi) (a.eval x))
            obtain ⟨ad, len, cap, bs, hΓ, _, _, hlen, hlc, hval⟩ := hv'
            have hat := toList_one ht
            have hyl : ((xs.take hi.toNat).drop lo.toNat).length = hi.toNat - lo.toNat := by simp; omega
            have hal := ali_arr hr ⟨bs, hΓ⟩ hl (idB_iff.2 rfl)
            by_cases he : hi.toNat - lo.toNat = 0
            · have hsame : xs.take lo.toNat ++ List.replicate ((xs.take hi.toNat).drop lo.toNat).length (zeroEl E) ++ xs.drop hi.toNat = xs := by
                rw [hyl, he, show lo.toNat = hi.toNat by omega]
                simp
              have hn : (hi - lo).toNat = 0 := by omega
              have hb : ∀ consts, (Go.builtin .clear c.argTypes ty consts #[a.eval x]).run P w = .ok (.value (.tuple #[])) w := by
                intro consts
                rw [hat, hval, hn]
                cases (if (cap : Int) = lo then ad else ad.map (·.add (lo.toNat * width E))) <;> simp [Go.builtin, Builtin.clear_, run_underlying hu]
              refine wp_value (run_builtin hc (map_one ha) hb) (hK G _ w (Fr.refl _ _) ?_)
              rw [hsame]
              refine (hr.at_op rc i).congr fun l2 => ?_
              by_cases e : l = l2
              · subst e; simp [S.get, locB_self, hl]
              · simp [S.get, locB_ne e]
            · rcases hal with ⟨rfl, e'⟩ | ⟨b, o', cap2, cs, el, ev, hcap, hρ, hh, hsz, hx⟩
              · simp at k2; omega
              cases ev
              have hlo : lo.toNat < xs.length := by omega
              have hzf : Flat w G.O E (List.replicate ((xs.take hi.toNat).drop lo.toNat).length (zeroEl E)) (Builtin.zeroCells z.cells (hi - lo).toNat).toList := by
                rw [hyl, show (hi - lo).toNat = hi.toNat - lo.toNat by omega]
                exact zeros_flat hzc _
              obtain ⟨c', el', hh', hin, hfr, hrep⟩ := hr.storeRun (k := lo.toNat) hl hΓ (ys := List.replicate ((xs.take hi.toNat).drop lo.toNat).length (zeroEl E)) (by rw [List.length_replicate, hyl]; omega) (by
                intro e; have := congrArg List.length e; rw [List.length_replicate, hyl] at this; simp at this; omega) hzf
              rw [hh] at hh'
              cases hh'
              obtain ⟨m, hm⟩ : ∃ m, (hi - lo).toNat = m + 1 := ⟨(hi - lo).toNat - 1, by omega⟩
              have hv2 : a.eval x = .slice (some ⟨b, o' + lo.toNat * width E, none⟩) (m + 1) (cap - lo.toNat) := by
                rw [hval, if_neg (by omega), hm]
                simp [Addr.add]
              have hst := run_storeCells (P := P) (b := b) (off := o' + lo.toNat * width E) (Builtin.zeroCells z.cells (hi - lo).toNat).toList 0 cs w hh (by rw [Nat.add_zero]; exact hin) hzf.one
              rw [Nat.add_zero] at hst
              have hb : ∀ consts, (Go.builtin .clear c.argTypes ty consts #[a.eval x]).run P w = .ok (.value (.tuple #[])) (w.setRow b (spl cs (o' + lo.toNat * width E) (Builtin.zeroCells z.cells (hi - lo).toNat).toList)) := by
                intro consts
                rw [hm] at hst ⊢
                rw [hat, hv2]
                simp [Go.builtin, Builtin.clear_, run_underlying hu, zeroValue, typeInfo, hj, hjz, hst]
              refine wp_value (run_builtin hc (map_one ha) hb) (hK G _ _ hfr ?_)
              rw [List.length_replicate, hyl, show lo.toNat + (hi.toNat - lo.toNat) = hi.toNat by omega] at hrep
              rw [hyl]
              exact hrep.at_op rc i
          · exact h'.elim
        · exact h'.elim
      · exact h.elim
    · exact h.elim
  · exact h.elim
end
end Go.Proofs.Ytbgefphoochgcaa.FE
