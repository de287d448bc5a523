/- FE, part 7: operands that are looked at, frozen, taken; parts of slices. -/
import Derived.Test.YtbgefphoochgcaaFeF
namespace Go.Proofs.Ytbgefphoochgcaa.FE
open Go
set_option linter.unusedVariables false
set_option linter.unusedSimpArgs false
section
variable {Ω : Type} {C : CloRep Ω} {G : Ghost} {w : World} {N : Nat} {used : Id → Prop} {st : S Ω} {a : Act}

theorem add_none (b off n : Nat) : (⟨b, off, none⟩ : Addr).add n = ⟨b, off + n, none⟩ := by
  unfold Addr.add; split <;> simp_all
theorem cut_some {α : Type} {xs ys : List α} {lo hi : Int} (h : cut xs lo hi = some ys) : 0 ≤ lo ∧ lo ≤ hi ∧ hi ≤ (xs.length : Int) ∧ ys = (xs.take hi.toNat).drop lo.toNat := by
  unfold cut at h
  split at h
  · rename_i e
    simp only [Bool.and_eq_true, decide_eq_true_eq] at e
    cases h
    exact ⟨e.1, e.2.1, e.2.2, rfl⟩
  · cases h
theorem cut_len {α : Type} {xs ys : List α} {lo hi : Int} (h : cut xs lo hi = some ys) : ys.length = (hi - lo).toNat := by
  obtain ⟨h1, h2, h3, rfl⟩ := cut_some h
  simp only [List.length_drop, List.length_take]
  omega
theorem cut_get {α : Type} {xs ys : List α} {lo hi : Int} (h : cut xs lo hi = some ys) {j : Nat} (hj : j < ys.length) : ∃ h' : lo.toNat + j < xs.length, ys[j] = xs[lo.toNat + j] := by
  have hl := cut_len h
  obtain ⟨h1, h2, h3, rfl⟩ := cut_some h
  refine ⟨by omega, ?_⟩
  simp only [List.getElem_drop, List.getElem_take]
theorem ArrRep.header {ρ : Nat → Option Own} {o : Own} {e : Ty} {xs : List (El e)} {v : Value} (h : ArrRep ρ w o e xs v) : ∃ ad cap, v = .slice ad xs.length cap ∧ xs.length ≤ cap := by
  rcases h with ⟨rfl, rfl⟩ | ⟨b, off, cap, c, el, rfl, hc, _⟩
  · exact ⟨none, 0, rfl, Nat.le_refl _⟩
  · exact ⟨_, cap, rfl, hc⟩
def cutV (ad : Option Addr) (cap sz : Nat) (lo hi : Int) : Value := .slice (if (cap : Int) = lo then ad else ad.map (·.add (lo.toNat * sz))) (hi - lo).toNat (cap - lo.toNat)
theorem ArrRep.cut {ρ : Nat → Option Own} {o : Own} {e : Ty} {xs ys : List (El e)} {ad : Option Addr} {len cap : Nat} {lo hi : Int} (h : ArrRep ρ w o e xs (.slice ad len cap)) (hc : cut xs lo hi = some ys) :
    ArrRep ρ w o e ys (cutV ad cap (width e) lo hi) := by
  have hl := cut_len hc
  obtain ⟨h1, h2, h3, hys⟩ := cut_some hc
  rcases h with ⟨rfl, hv⟩ | ⟨b, off, cap', c, el, hv, hcap, hb, hh, hsz, hx⟩
  · cases hv
    simp only [List.length_nil, Int.natCast_zero] at h3
    obtain rfl : lo = 0 := by omega
    obtain rfl : hi = 0 := by omega
    left
    refine ⟨by rw [hys]; simp, ?_⟩
    simp [cutV]
  · cases hv
    right
    have hle : lo.toNat + ys.length ≤ xs.length := by omega
    unfold cutV
    rw [← hl]
    by_cases he : (cap : Int) = lo
    · rw [if_pos he]
      refine ⟨b, off, cap - lo.toNat, c, el, rfl, by omega, hb, hh, ?_, fun j hj => by omega⟩
      have : cap - lo.toNat = 0 := by omega
      rw [this]; omega
    · rw [if_neg he]
      simp only [Option.map_some, add_none]
      refine ⟨b, off + lo.toNat * width e, cap - lo.toNat, c, el, rfl, by omega, hb, hh, ?_, fun j hj => ?_⟩
      · have : lo.toNat * width e + (cap - lo.toNat) * width e = cap * width e := by rw [← Nat.add_mul]; congr 1; omega
        omega
      · obtain ⟨h', e'⟩ := cut_get hc hj
        obtain ⟨vs, hr, hat⟩ := hx (lo.toNat + j) h'
        refine ⟨vs, by rw [e']; exact hr, fun i v hi => ?_⟩
        have := hat i v hi
        rw [Nat.add_mul] at this
        rw [← this]; congr 1; omega
theorem RepC.cut {O : Nat → Prop} {e : Ty} {xs ys : List (El e)} {ad : Option Addr} {len cap : Nat} {lo hi : Int} (h : RepC w O (.sl e) xs [.slice ad len cap]) (hc : cut xs lo hi = some ys) :
    RepC w O (.sl e) ys [cutV ad cap (width e) lo hi] := by
  have hl := cut_len hc
  obtain ⟨h1, h2, h3, hys⟩ := cut_some hc
  obtain ⟨a', cap', hv, hcap, hx⟩ := h
  simp only [List.cons.injEq, Value.slice.injEq, and_true] at hv
  obtain ⟨rfl, rfl, rfl⟩ := hv
  refine ⟨if (cap : Int) = lo then ad else ad.map (·.add (lo.toNat * width e)), cap - lo.toNat, by rw [hl]; rfl, by omega, fun hne => ?_⟩
  have hlen : 0 < ys.length := List.length_pos_iff.mpr hne
  obtain ⟨b, off, rfl, hb, hx⟩ := hx (by intro e'; subst e'; simp at h3; omega)
  rw [if_neg (by omega)]
  simp only [Option.map_some, add_none]
  refine ⟨b, _, rfl, hb, fun j hj => ?_⟩
  obtain ⟨h', e'⟩ := cut_get hc hj
  obtain ⟨l, hr, hat⟩ := hx (lo.toNat + j) h'
  refine ⟨l, by rw [e']; exact hr, ?_⟩
  rw [Nat.add_mul] at hat
  rwa [Nat.add_assoc]
theorem ali_arr (hr : Rep C G N used st a w) {l : Loc} {id id' : Id} {e : Ty} {xs : List (El e)} {v : Value} (hv : ∃ bs, G.Γ id = some (v, bs)) (hl : st.get l = .one (.arr id' e xs)) (hid : idB id id' = true) : ArrRep G.ρ w (.at_ l) e xs v := by
  obtain rfl := idB_iff.1 hid
  have hat := hr.at_ l
  rw [hl] at hat
  obtain ⟨v', ⟨bs, h1⟩, h2⟩ := hat.arr
  obtain ⟨bs', h3⟩ := hv
  rw [h1] at h3
  cases h3
  exact h2
theorem ali_omp (hr : Rep C G N used st a w) {l : Loc} {id id' : Id} {k v : Ty} {m : List (El k × El v)} {u : Value} {bs : List Nat} (hv : G.Γ id = some (u, bs)) (hl : st.get l = .one (.omp id' k v m)) (hid : idB id id' = true) : MapRep G.ρ w (.at_ l) k v m u bs := by
  obtain rfl := idB_iff.1 hid
  have hat := hr.at_ l
  rw [hl] at hat
  obtain ⟨u', bs', h1, h2⟩ := hat.omp
  rw [h1] at hv
  cases hv
  exact h2
/-- Only ghosts move: what owns nothing stands for the same. -/
abbrev Moves (G : Ghost) (w : World) (G' : Ghost) : Prop := Step G w G' w (fun l => l ≠ .om)
theorem give_moves (hr : Rep C G N used st a w) (l : Loc) (o : Option Loc) (hl : l ≠ .om) : Moves G w (G.give l o) := give_step hr hl
theorem arr_ne (hr : Rep C G N used st a w) {l : Loc} {id : Id} {e : Ty} {xs : List (El e)} (h : st.get l = .one (.arr id e xs)) : l ≠ .om := by
  rintro rfl
  have := hr.at_ .om
  rw [h] at this
  rcases this with h | ⟨s, h, _⟩ <;> cases h
theorem omp_ne (hr : Rep C G N used st a w) {l : Loc} {id : Id} {k v : Ty} {m : List (El k × El v)} (h : st.get l = .one (.omp id k v m)) : l ≠ .om := by
  rintro rfl
  have := hr.at_ .om
  rw [h] at this
  rcases this with h | ⟨s, h, _⟩ <;> cases h
theorem RepAV.moves {G' : Ghost} (hm : Moves G w G') {u : AV Ω} {v : Value} (h : RepAV C G w none u v) : RepAV C G' w none u v := h.step hm (fun l e => by cases e)
theorem avw_inv {l : Loc} {id : Id} {sz : Nat} {lo hi : Int} {v : Value} (h : RepL C G w none (.avw l id sz lo hi : Leaf Ω) v) : ∃ ad len cap, (∃ bs, G.Γ id = some (.slice ad len cap, bs)) ∧ 0 ≤ lo ∧ lo ≤ hi ∧ hi ≤ (len : Int) ∧ len ≤ cap ∧ v = cutV ad cap sz lo hi := by
  obtain ⟨ad, len, cap, bs, h1, h2⟩ := h
  exact ⟨ad, len, cap, ⟨bs, h1⟩, h2⟩
/-- Frozen: what is handed on is data, and the state says so. -/
theorem Step.moves {G' G'' : Ghost} (h0 : Moves G w G') (k : Moves G' w G'') : Moves G w G'' where
  Γ i v e := k.Γ i v (h0.Γ i v e)
  β i b e := k.β i b (h0.β i b e)
  os := rfl
  tape := rfl
  output := rfl
  size := Nat.le_refl _
  free b hb ho := ⟨rfl, (k.free b hb (h0.free b hb ho).2).2⟩
  own b l e hn := ⟨rfl, (k.own b l (h0.own b l e hn).2 hn).2⟩
  ext b e := ⟨rfl, (k.ext b (h0.ext b e).2).2⟩
  om b e hn := ⟨rfl, (k.om b (h0.om b e hn).2 hn).2⟩
  bx b n i e := ⟨(k.bx b n i (h0.β i _ e)).1, (h0.bx b n i e).2.1, fun j _ => rfl⟩
  lt := k.lt
  omr b hb h hn := h0.omr b hb (k.omr b hb h hn) hn
theorem runs_freeze1 (hr : Rep C G N used st a w) {o : Operand} {v : AV Ω} {x : Value} (hv : RepAV C G w (opLoc o) v x) (hsrc : ∀ t, o = .tmp t → v = st.get (.tmp t))
    {f : AV Ω → Prg Ω} {acc rs : List Loc} {ws : List (Loc × AV Ω)} (h : (freeze1 o v f).Runs st acc rs ws) :
    ∃ u ws' ws2 acc' G1, ws = ws2 ++ ws' ∧ (f u).Runs (ws' ++ st) acc' rs ws2 ∧ Moves G w G1 ∧ G1.Γ = G.Γ ∧ G1.β = G.β ∧ Rep C G1 N used (ws' ++ st) a w ∧ RepAV C G1 w none u x ∧ noOwn u := by
  have plain : ∀ {acc}, noOwn v → (f v).Runs st acc rs ws → ∃ u ws' ws2 acc' G1, ws = ws2 ++ ws' ∧ (f u).Runs (ws' ++ st) acc' rs ws2 ∧ Moves G w G1 ∧ G1.Γ = G.Γ ∧ G1.β = G.β ∧ Rep C G1 N used (ws' ++ st) a w ∧ RepAV C G1 w none u x ∧ noOwn u :=
    fun hn h => ⟨v, [], ws, _, G, by simp, h, Step.refl' hr _, rfl, rfl, hr, hv.any hn, hn⟩
  cases v with
  | agg ls => exact plain trivial h
  | tup ps => exact plain trivial h
  | one lf =>
    cases lf with
    | ali l id =>
      have h' : Prg.Runs st (match st.get l with
        | .one (.arr id' e xs) => (match idB id id' with | true => .upd [(l, .one (.dat (.sl e) xs))] (f (.one (.dat (.sl e) xs))) | false => .fail)
        | .one (.omp id' a b m) => (match idB id id' with | true => .upd [(l, .one (.dat (.mp a b) m))] (f (.one (.dat (.mp a b) m))) | false => .fail)
        | _ => .fail) (l :: acc) rs ws := h
      split at h'
      · rename_i id' e xs hl
        split at h'
        · rename_i hid
          obtain rfl := idB_iff.1 hid
          obtain ⟨ws2, rfl, h'⟩ := h'
          obtain ⟨h1, h2⟩ := hr.freezeArr hl
          exact ⟨_, _, _, _, _, rfl, h', give_moves hr _ _ (arr_ne hr hl), rfl, rfl, h1, h2 x hv.1, trivial⟩
        · exact h'.elim
      · rename_i id' k v m hl
        split at h'
        · rename_i hid
          obtain rfl := idB_iff.1 hid
          obtain ⟨ws2, rfl, h'⟩ := h'
          obtain ⟨h1, h2⟩ := hr.freezeMap hl
          exact ⟨_, _, _, _, _, rfl, h', give_moves hr _ _ (omp_ne hr hl), rfl, rfl, h1, h2 x hv.1, trivial⟩
        · exact h'.elim
      · exact h'.elim
    | avw l id sz lo hi =>
      have h' : Prg.Runs st (match st.get l with
        | .one (.arr id' e xs) => (match and (idB id id') (Nat.beq sz (width e)) with | true => .bind (cut xs lo hi) fun ys => .upd [(l, .one (.dat (.sl e) xs))] (f (.one (.dat (.sl e) ys))) | false => .fail)
        | _ => .fail) (l :: acc) rs ws := h
      split at h'
      · rename_i id' e xs hl
        split at h'
        · rename_i hid
          rw [Bool.and_eq_true] at hid
          obtain rfl := idB_iff.1 hid.1
          obtain rfl := Nat.eq_of_beq_eq_true hid.2
          obtain ⟨ys, hc, ws2, rfl, h'⟩ := h'
          obtain ⟨h1, h2⟩ := hr.freezeArr hl
          obtain ⟨ad, len, cap, hΓ, _, _, _, _, rfl⟩ := avw_inv (C := C) (w := w) (l := l) hv
          exact ⟨_, _, _, _, _, rfl, h', give_moves hr _ _ (arr_ne hr hl), rfl, rfl, h1, (h2 _ hΓ).cut hc, trivial⟩
        · exact h'.elim
      · exact h'.elim
    | arr id e xs =>
      cases o with
      | tmp t =>
        have h2 : Prg.Runs st (.upd [(.tmp t, .one (.dat (.sl e) xs))] (f (.one (.dat (.sl e) xs)))) acc rs ws := h
        obtain ⟨ws2, rfl, h'⟩ := h2
        obtain ⟨l', e1, hΓ, _⟩ := hv
        obtain ⟨h1, h2⟩ := hr.freezeArr (hsrc t rfl).symm
        exact ⟨_, _, _, _, _, rfl, h', give_moves hr _ _ (fun e => by cases e), rfl, rfl, h1, h2 _ hΓ, trivial⟩
      | _ => exact h.elim
    | omp id k v m =>
      cases o with
      | tmp t =>
        have h2 : Prg.Runs st (.upd [(.tmp t, .one (.dat (.mp k v) m))] (f (.one (.dat (.mp k v) m)))) acc rs ws := h
        obtain ⟨ws2, rfl, h'⟩ := h2
        obtain ⟨l', bs, e1, hΓ, _⟩ := hv
        obtain ⟨h1, h2⟩ := hr.freezeMap (hsrc t rfl).symm
        exact ⟨_, _, _, _, _, rfl, h', give_moves hr _ _ (fun e => by cases e), rfl, rfl, h1, h2 _ ⟨bs, hΓ⟩, trivial⟩
      | _ => exact h.elim
    | _ => exact plain trivial h
theorem runs_freezeLs {rs : List Loc} : ∀ (ls : List (Leaf Ω)) {vs : List Value} {G : Ghost} {st : S Ω} {f : List (Leaf Ω) → Prg Ω} {acc : List Loc} {ws : List (Loc × AV Ω)}, Rep C G N used st a w → All2 (RepL C G w none) ls vs → (freezeLs ls f).Runs st acc rs ws →
    ∃ us ws' ws2 acc' G1, ws = ws2 ++ ws' ∧ (f us).Runs (ws' ++ st) acc' rs ws2 ∧ Moves G w G1 ∧ G1.Γ = G.Γ ∧ G1.β = G.β ∧ Rep C G1 N used (ws' ++ st) a w ∧ All2 (RepL C G1 w none) us vs
  | [], vs, G, st, f, acc, ws, hr, hv, h => ⟨[], [], ws, _, G, by simp, h, Step.refl' hr _, rfl, rfl, hr, hv⟩
  | l :: r, _, G, st, f, acc, ws, hr, .cons h1 h2, h => by
    obtain ⟨u, ws', ws2, acc2, G1, rfl, h, hm, hΓ, hβ, hr1, hu, hn⟩ := runs_freeze1 (o := .const (.bool true)) (v := .one l) hr h1 (fun t e => by cases e) h
    cases u with
    | one l' =>
      obtain ⟨us, ws3, ws4, acc3, G2, rfl, h, hm2, hΓ2, hβ2, hr2, hus⟩ := runs_freezeLs r hr1 (h2.mono fun x y h => RepL.step hm (fun _ e => by cases e) h) h
      exact ⟨l' :: us, ws3 ++ ws', ws4, acc3, G2, by rw [List.append_assoc], by rw [List.append_assoc]; exact h, hm.moves hm2, hΓ2.trans hΓ, hβ2.trans hβ, by rw [List.append_assoc]; exact hr2, .cons (RepL.step hm2 (fun _ e => by cases e) hu) hus⟩
    | _ => exact h.elim
theorem runs_freeze (hr : Rep C G N used st a w) {o : Operand} {v : AV Ω} {x : Value} (hv : RepAV C G w (opLoc o) v x) (hsrc : ∀ t, o = .tmp t → v = st.get (.tmp t))
    {f : AV Ω → Prg Ω} {acc rs : List Loc} {ws : List (Loc × AV Ω)} (h : (freeze o v f).Runs st acc rs ws) :
    ∃ u ws' ws2 acc' G1, ws = ws2 ++ ws' ∧ (f u).Runs (ws' ++ st) acc' rs ws2 ∧ Moves G w G1 ∧ G1.Γ = G.Γ ∧ G1.β = G.β ∧ Rep C G1 N used (ws' ++ st) a w ∧ RepAV C G1 w none u x ∧ noOwn u := by
  cases v with
  | agg ls =>
    obtain ⟨vs, rfl, hv⟩ := hv
    obtain ⟨us, ws', ws2, acc', G1, e, h, hm, hΓ, hβ, hr1, hus⟩ := runs_freezeLs ls hr hv h
    exact ⟨.agg us, ws', ws2, acc', G1, e, h, hm, hΓ, hβ, hr1, ⟨vs, rfl, hus⟩, trivial⟩
  | one l => exact runs_freeze1 hr hv hsrc h
  | tup ps => exact ⟨.tup ps, [], ws, _, G, by simp, h, Step.refl' hr _, rfl, rfl, hr, hv.any trivial, trivial⟩

/-- A new id, with its value. -/
def Ghost.name (G : Ghost) (id : Id) (v : Value) (bs : List Nat) : Ghost := { G with Γ := fun i => match idB id i with | true => some (v, bs) | false => G.Γ i }
theorem name_at {id : Id} {v : Value} {bs : List Nat} : (G.name id v bs).Γ id = some (v, bs) := by simp [Ghost.name, idB_iff.2 rfl]
theorem name_ne {id id' : Id} {v : Value} {bs : List Nat} (h : id ≠ id') : (G.name id v bs).Γ id' = G.Γ id' := by
  have : idB id id' = false := by
    cases e : idB id id'
    · rfl
    · exact absurd (idB_iff.1 e) h
  simp [Ghost.name, this]
theorem name_step (hr : Rep C G N used st a w) {id : Id} (hid : ¬ used id) (v : Value) (bs : List Nat) (L : Loc → Prop) : Step G w (G.name id v bs) w L where
  Γ i u h := by
    rw [name_ne, h]
    intro e
    subst e
    exact hid (hr.usedΓ _ (by rw [h]; simp))
  β _ _ h := h
  os := rfl
  tape := rfl
  output := rfl
  size := Nat.le_refl _
  free := Free.refl _ _
  own _ _ h _ := ⟨rfl, h⟩
  ext _ h := ⟨rfl, h⟩
  om _ h _ := ⟨rfl, h⟩
  bx b n i h := ⟨(hr.box i b n h).1, (hr.box i b n h).2, fun _ _ => rfl⟩
  lt := hr.lt
  omr _ _ h _ := h
theorem Rep.name (hr : Rep C G N used st a w) {id : Id} (hid : ¬ used id) (v : Value) (bs : List Nat) {used' : Id → Prop} (hu : ∀ i, used i → used' i) (hi : used' id) : Rep C (G.name id v bs) N used' st a w := by
  refine Rep.step (ws := []) hr (name_step hr hid v bs _) (fun l hl => by simp [inL] at hl) (fun _ _ => rfl) hr.size hr.defers (fun _ _ _ h => .inl h) (fun i h => ?_) (fun i h => hu i (hr.usedβ i h))
  by_cases e : id = i
  · exact e ▸ hi
  · rw [name_ne e] at h
    exact hu i (hr.usedΓ i h)
/-- Taken: what is handed on may be put at l'. -/
theorem runs_take (hr : Rep C G N used st a w) {o : Operand} {v : AV Ω} {x : Value} (hv : RepAV C G w (opLoc o) v x) (hsrc : ∀ t, o = .tmp t → v = st.get (.tmp t)) (l' : Loc) {nid : Id} (hid : ¬ used nid)
    {used' : Id → Prop} (hu : ∀ i, used i → used' i) (hnu : used' nid)
    {f : AV Ω → Prg Ω} {acc rs : List Loc} {ws : List (Loc × AV Ω)} (h : (takeV o nid v f).Runs st acc rs ws) :
    ∃ u ws' ws2 acc' G1, ws = ws2 ++ ws' ∧ (f u).Runs (ws' ++ st) acc' rs ws2 ∧ Moves G w G1 ∧ G1.β = G.β ∧ Rep C G1 N used' (ws' ++ st) a w ∧ RepAV C G1 w (some l') u x := by
  have plain : ∀ {acc}, noOwn v → (f v).Runs st acc rs ws → ∃ u ws' ws2 acc' G1, ws = ws2 ++ ws' ∧ (f u).Runs (ws' ++ st) acc' rs ws2 ∧ Moves G w G1 ∧ G1.β = G.β ∧ Rep C G1 N used' (ws' ++ st) a w ∧ RepAV C G1 w (some l') u x :=
    fun hn h => ⟨v, [], ws, _, G, by simp, h, Step.refl' hr _, rfl, hr.mono hu, hv.any hn⟩
  cases v with
  | agg ls => exact plain trivial h
  | tup ps => exact plain trivial h
  | one lf =>
    cases lf with
    | ali l id =>
      have h' : Prg.Runs st (match st.get l with
        | .one (.arr id' e xs) => (match idB id id' with | true => .upd [(l, .one .dead)] (f (.one (.arr id' e xs))) | false => .fail)
        | .one (.omp id' a b m) => (match idB id id' with | true => .upd [(l, .one .dead)] (f (.one (.omp id' a b m))) | false => .fail)
        | _ => .fail) (l :: acc) rs ws := h
      split at h'
      · rename_i id' e xs hl
        split at h'
        · rename_i hid'
          have ha := ali_arr hr hv.1 hl hid'
          obtain rfl := idB_iff.1 hid'
          obtain ⟨ws2, rfl, h'⟩ := h'
          exact ⟨_, _, _, _, _, rfl, h', give_moves hr _ (some l') (arr_ne hr hl), rfl, (hr.takeAt l _).mono hu, l', rfl, hv.1, ha.give hr⟩
        · exact h'.elim
      · rename_i id' k v m hl
        split at h'
        · rename_i hid'
          obtain ⟨⟨bs, hΓ⟩, -⟩ := hv
          have ha := ali_omp hr hΓ hl hid'
          obtain rfl := idB_iff.1 hid'
          obtain ⟨ws2, rfl, h'⟩ := h'
          exact ⟨_, _, _, _, _, rfl, h', give_moves hr _ (some l') (omp_ne hr hl), rfl, (hr.takeAt l _).mono hu, l', bs, rfl, hΓ, ha.give hr⟩
        · exact h'.elim
      · exact h'.elim
    | avw l id sz lo hi =>
      have h' : Prg.Runs st (match st.get l with
        | .one (.arr id' e xs) => (match and (idB id id') (Nat.beq sz (width e)) with | true => .bind (cut xs lo hi) fun ys => .upd [(l, .one .dead)] (f (.one (.arr nid e ys))) | false => .fail)
        | _ => .fail) (l :: acc) rs ws := h
      split at h'
      · rename_i id' e xs hl
        split at h'
        · rename_i hid'
          rw [Bool.and_eq_true] at hid'
          obtain rfl := Nat.eq_of_beq_eq_true hid'.2
          obtain ⟨ys, hc, ws2, rfl, h'⟩ := h'
          obtain ⟨ad, len, cap, hΓ, _, _, _, _, rfl⟩ := avw_inv (C := C) (w := w) (l := l) hv
          have ha := ali_arr hr hΓ hl hid'.1
          have h1 := hr.takeAt l (some l')
          refine ⟨_, _, _, _, _, rfl, h', (give_moves hr l (some l') (arr_ne hr hl)).moves (name_step h1 hid (cutV ad cap (width e) lo hi) [] _), rfl, h1.name hid _ _ hu hnu, l', rfl, ⟨[], name_at⟩, ?_⟩
          exact (ha.give hr).cut hc
        · exact h'.elim
      · exact h'.elim
    | arr id e xs =>
      cases o with
      | tmp t =>
        have h2 : Prg.Runs st (.upd [(.tmp t, .one .dead)] (f (.one (.arr id e xs)))) acc rs ws := h
        obtain ⟨ws2, rfl, h'⟩ := h2
        obtain ⟨l2, e1, hΓ, ha⟩ := hv
        cases e1
        exact ⟨_, _, _, _, _, rfl, h', give_moves hr _ (some l') (fun e => by cases e), rfl, (hr.takeAt (.tmp t) _).mono hu, l', rfl, hΓ, ha.give hr⟩
      | _ => exact h.elim
    | omp id k v m =>
      cases o with
      | tmp t =>
        have h2 : Prg.Runs st (.upd [(.tmp t, .one .dead)] (f (.one (.omp id k v m)))) acc rs ws := h
        obtain ⟨ws2, rfl, h'⟩ := h2
        obtain ⟨l2, bs, e1, hΓ, ha⟩ := hv
        cases e1
        exact ⟨_, _, _, _, _, rfl, h', give_moves hr _ (some l') (fun e => by cases e), rfl, (hr.takeAt (.tmp t) _).mono hu, l', bs, rfl, hΓ, ha.give hr⟩
      | _ => exact h.elim
    | _ => exact plain trivial h
/-- Looked at: data of memory as it is, whoever owns it. -/
def RepB (C : CloRep Ω) (G : Ghost) (w : World) : AV Ω → Value → Prop
  | .one (.dat t x), v => RepC w (fun b => G.ρ b = some .om) t x [v]
  | u, v => RepAV C G w none u v
theorem RepB.of {u : AV Ω} {v : Value} (h : RepAV C G w none u v) : RepB C G w u v := by
  cases u with
  | one l => cases l <;> first | exact h | exact RepC.mono (fun b _ h => ⟨rfl, fun e => h (show G.ρ b ≠ none by rw [e]; simp)⟩) h
  | _ => exact h
theorem runs_borrow (hr : Rep C G N used st a w) {o : Operand} {v : AV Ω} {x : Value} (hv : RepAV C G w (opLoc o) v x)
    {f : AV Ω → Prg Ω} {acc rs : List Loc} {ws : List (Loc × AV Ω)} (h : (borrow v f).Runs st acc rs ws) :
    ∃ u acc', (f u).Runs st acc' rs ws ∧ RepB C G w u x := by
  have plain : ∀ {acc}, noOwn v → (f v).Runs st acc rs ws → ∃ u acc', (f u).Runs st acc' rs ws ∧ RepB C G w u x := fun hn h => ⟨v, _, h, .of (hv.any hn)⟩
  have nf : ∀ b, ¬ G.O b → ¬ (fun b => G.ρ b = some .om) b := fun b h e => h (show G.ρ b ≠ none by have e' : G.ρ b = some .om := e; rw [e']; simp)
  have na : ∀ {l : Loc} b, G.ρ b = some (.at_ l) → ¬ (fun b => G.ρ b = some .om) b := fun b e e2 => by have e' : G.ρ b = some .om := e2; rw [e] at e'; cases e'
  cases v with
  | agg ls => exact plain trivial h
  | tup ps => exact plain trivial h
  | one lf =>
    cases lf with
    | ali l id =>
      have h' : Prg.Runs st (match st.get l with
        | .one (.arr id' e xs) => (match idB id id' with | true => f (.one (.dat (.sl e) xs)) | false => .fail)
        | .one (.omp id' a b m) => (match idB id id' with | true => f (.one (.dat (.mp a b) m)) | false => .fail)
        | _ => .fail) (l :: acc) rs ws := h
      split at h'
      · rename_i id' e xs hl
        split at h'
        · rename_i hid'
          exact ⟨_, _, h', (ali_arr hr hv.1 hl hid').data nf na⟩
        · exact h'.elim
      · rename_i id' k v m hl
        split at h'
        · rename_i hid'
          obtain ⟨⟨bs, hΓ⟩, -⟩ := hv
          exact ⟨_, _, h', (ali_omp hr hΓ hl hid').data nf na⟩
        · exact h'.elim
      · exact h'.elim
    | avw l id sz lo hi =>
      have h' : Prg.Runs st (match st.get l with
        | .one (.arr id' e xs) => (match and (idB id id') (Nat.beq sz (width e)) with | true => .bind (cut xs lo hi) fun ys => f (.one (.dat (.sl e) ys)) | false => .fail)
        | _ => .fail) (l :: acc) rs ws := h
      split at h'
      · rename_i id' e xs hl
        split at h'
        · rename_i hid'
          rw [Bool.and_eq_true] at hid'
          obtain rfl := Nat.eq_of_beq_eq_true hid'.2
          obtain ⟨ys, hc, h'⟩ := h'
          obtain ⟨ad, len, cap, hΓ, _, _, _, _, rfl⟩ := avw_inv (C := C) (w := w) (l := l) hv
          exact ⟨_, _, h', ((ali_arr hr hΓ hl hid'.1).data nf na).cut hc⟩
        · exact h'.elim
      · exact h'.elim
    | arr id e xs => obtain ⟨l2, e1, hΓ, ha⟩ := hv; exact ⟨_, _, h, ha.data nf na⟩
    | omp id k v m => obtain ⟨l2, bs, e1, hΓ, ha⟩ := hv; exact ⟨_, _, h, ha.data nf na⟩
    | _ => exact plain trivial h
end
end Go.Proofs.Ytbgefphoochgcaa.FE
