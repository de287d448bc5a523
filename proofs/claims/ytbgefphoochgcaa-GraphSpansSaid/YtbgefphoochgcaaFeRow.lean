/- FE, part 41: Go's library: a row of ints that is written in place (slices.Sort, slices.Compact). -/
import Derived.Test.YtbgefphoochgcaaFeOut
import Derived.Lib.RowBridge
import Derived.Lib.SlicesCompact
import Derived.Sort.Grow
namespace Go.Proofs.Ytbgefphoochgcaa.FE
open Go
set_option linter.unusedVariables false
set_option linter.unusedSimpArgs false
/-! ### sorting, as the kernel can run it -/
def isins (x : Int) : List Int → List Int
  | [] => [x]
  | y :: l => if x ≤ y then x :: y :: l else y :: isins x l
def isort : List Int → List Int
  | [] => []
  | x :: l => isins x (isort l)
theorem isins_perm (x : Int) : ∀ l, (isins x l).Perm (x :: l)
  | [] => List.Perm.refl _
  | y :: l => by
    unfold isins
    split
    · exact List.Perm.refl _
    · exact ((isins_perm x l).cons y).trans (List.Perm.swap x y l)
theorem isort_perm : ∀ l, (isort l).Perm l
  | [] => List.Perm.refl _
  | x :: l => (isins_perm x (isort l)).trans ((isort_perm l).cons x)
theorem isort_length (l : List Int) : (isort l).length = l.length := (isort_perm l).length_eq
theorem isins_sorted (x : Int) : ∀ l : List Int, l.Pairwise (· ≤ ·) → (isins x l).Pairwise (· ≤ ·)
  | [], _ => List.pairwise_singleton _ _
  | y :: l, h => by
    unfold isins
    rw [List.pairwise_cons] at h
    split
    · rename_i hxy
      refine List.pairwise_cons.2 ⟨fun z hz => ?_, List.pairwise_cons.2 h⟩
      rcases List.mem_cons.1 hz with rfl | hz
      · exact hxy
      · have := h.1 z hz; omega
    · rename_i hxy
      refine List.pairwise_cons.2 ⟨fun z hz => ?_, isins_sorted x l h.2⟩
      rcases List.mem_cons.1 ((isins_perm x l).mem_iff.1 hz) with rfl | hz
      · omega
      · exact h.1 z hz
theorem isort_sorted : ∀ l : List Int, (isort l).Pairwise (· ≤ ·)
  | [] => List.Pairwise.nil
  | x :: l => isins_sorted x _ (isort_sorted l)
theorem sorted_unique : ∀ (a b : List Int), a.Pairwise (· ≤ ·) → b.Pairwise (· ≤ ·) → a.Perm b → a = b
  | [], b, _, _, h => (List.Perm.nil_eq h)
  | x :: a, [], _, _, h => absurd h.length_eq (by simp)
  | x :: a, y :: b, ha, hb, h => by
    rw [List.pairwise_cons] at ha hb
    have hxy : x = y := by
      have h1 : y ≤ x := by
        rcases List.mem_cons.1 (h.mem_iff.1 (List.mem_cons_self)) with e | e
        · omega
        · exact hb.1 x e
      have h2 : x ≤ y := by
        rcases List.mem_cons.1 (h.mem_iff.2 (List.mem_cons_self)) with e | e
        · omega
        · exact ha.1 y e
      omega
    subst hxy
    rw [sorted_unique a b ha.2 hb.2 (List.Perm.cons_inv h)]
theorem mergeSort_isort (l : List Int) : l.mergeSort (fun x y => decide (x ≤ y)) = isort l := by
  refine sorted_unique _ _ ?_ (isort_sorted l) ((List.mergeSort_perm l _).trans (isort_perm l).symm)
  have h := List.pairwise_mergeSort (le := fun x y : Int => decide (x ≤ y)) (by simp; omega) (by simp; omega) l
  exact h.imp (by simp)
section
variable {P : Program}
theorem enter_of {f : Nat} {fn : Func} (hf : P.funcs[f]? = some fn) (hname : (fn.name == "runtime.NumGoroutine") = false) (hbody : fn.body.isSome = true) (args : Array Value) (w : World) : (callFunc f args).run P w = .ok (.enter f args) w := by
  have h1 : fn.name ≠ "runtime.NumGoroutine" := by simpa using hname
  obtain ⟨c, hc⟩ := Option.isSome_iff_exists.1 hbody
  simp [callFunc, hf, h1, hc, mark]
/-- One argument. -/
theorem one_arg {ρ : Nat → Option Own} {w : World} {q : PS} {ds : List DL} {args : Array Value} (h : ParsRep ρ w 0 [q] ds args.toList) : ∃ v, args = #[v] ∧ ParRep ρ w 0 q ds v := by
  obtain ⟨d1, d2, v, vs', rfl, e2, h1, rfl, rfl⟩ := h
  refine ⟨v, ?_, by simpa using h1⟩
  apply Array.ext'
  simpa using e2
theorem cells_at {b : Nat} {el : TypeId} : ∀ (vs : List Value) (o : Nat) (w : World) (c : Array Value), w.heap[b]? = some (.cells c el (0, 0)) → o + vs.length ≤ c.size →
    ∃ c', (w.setCells b o vs).heap[b]? = some (.cells c' el (0, 0)) ∧ c'.size = c.size ∧ (∀ j, j < vs.length → c'[o + j]? = vs[j]?) ∧ ∀ k, k < o → c'[k]? = c[k]?
  | [], o, w, c, h, _ => ⟨c, h, rfl, fun j hj => absurd hj (by simp), fun _ _ => rfl⟩
  | v :: vs, o, w, c, h, hl => by
    simp only [List.length_cons] at hl
    have hb : b < w.heap.size := by
      rcases Nat.lt_or_ge b w.heap.size with h' | h'
      · exact h'
      · rw [Array.getElem?_eq_none h'] at h; cases h
    have hwb : w.heap[b] = .cells c el (0, 0) := (Array.getElem?_eq_some_iff.1 h).2
    have e1 : (w.setCell ⟨b, o, none⟩ v).heap[b]? = some (.cells (c.setIfInBounds o v) el (0, 0)) := by
      rw [setCell_eq_setRow w b o c el (0, 0) v h]
      simp [World.setRow, Array.getElem_modify, hb, Array.getElem?_modify, h, hwb]
    obtain ⟨c', h1, h2, h3, h4⟩ := cells_at vs (o + 1) _ _ e1 (by simp; omega)
    refine ⟨c', h1, by simpa using h2, ?_, fun k hk => by rw [h4 k (by omega), Array.getElem?_setIfInBounds_ne (by omega)]⟩
    intro j hj
    cases j with
    | zero =>
      rw [Nat.add_zero, h4 o (by omega)]
      simp [Array.getElem?_setIfInBounds_self, show o < c.size by omega]
    | succ j =>
      rw [show o + (j + 1) = o + 1 + j by omega, h3 j (by simpa using hj)]
      rfl
/-- Such a row, as the library's contracts hold it. -/
theorem holds_of {w : World} {b off : Nat} {el : TypeId} {c : Array Value} {O : Nat → Prop} {xs : List Int} (hh : w.heap[b]? = some (.cells c el (0, 0))) (hc : ∀ j (h : j < xs.length), ∃ vs, RepC w O (.int .i64) (xs[j] : Int) vs ∧ ∀ i v, vs[i]? = some v → c[off + j * width (.int .i64) + i]? = some v) :
    Go.Sort.Holds (Value.int .i64) w b off xs.toArray := by
  intro j hj
  have hj' : j < xs.length := by simpa using hj
  obtain ⟨vs, rfl, h2⟩ := hc j hj'
  have h3 : c[off + j]? = some (.int .i64 xs[j]) := by
    have := h2 0 _ rfl
    simpa [width] using this
  refine ⟨?_, by simp [World.frozen?, hh]⟩
  have : xs.toArray[j]! = xs[j] := by simp [hj']
  rw [this]
  simp [World.cell?, hh, h3]
/-- What is left: ys stands ahead in the row. -/
theorem row_out {ρ : Nat → Option Own} {w : World} {b off q : Nat} {os : Array Obj} {c : Array Value} {el : TypeId} {ys : List Int} {o : Own} (hlt : ∀ b, Ow ρ b → b < w.heap.size) (ho : ρ b = some o) (hoe : o ≠ .ext) (hh : w.heap[b]? = some (.cells c el (0, 0))) (hl : off + ys.length ≤ c.size) :
    Fr ρ w ρ (Go.Sort.grow ((w.drewN q).setCells b off (ys.map (Value.int .i64))) os) ∧ (∀ k, Ow ρ k → k < (Go.Sort.grow ((w.drewN q).setCells b off (ys.map (Value.int .i64))) os).heap.size) ∧
      ∃ c', (Go.Sort.grow ((w.drewN q).setCells b off (ys.map (Value.int .i64))) os).heap[b]? = some (.cells c' el (0, 0)) ∧ c'.size = c.size ∧ ∀ j (h : j < ys.length), c'[off + j]? = some (.int .i64 ys[j]) := by
  have hb : b < w.heap.size := hlt b (by unfold Ow; rw [ho]; simp)
  obtain ⟨c', h1, h2, h3, h4⟩ := cells_at (b := b) (el := el) (ys.map (Value.int .i64)) off (w.drewN q) c hh (by simpa using hl)
  have hkb : ∀ (vs : List Value) (o : Nat) (w : World), (w.setCells b o vs).os = w.os ∧ (w.setCells b o vs).tape = w.tape ∧ (w.setCells b o vs).output = w.output ∧ (w.setCells b o vs).heap.size = w.heap.size ∧ ∀ k, k ≠ b → (w.setCells b o vs).heap[k]? = w.heap[k]? := by
    intro vs
    induction vs with
    | nil => intro o w; exact ⟨rfl, rfl, rfl, rfl, fun _ _ => rfl⟩
    | cons v vs ih =>
      intro o w
      obtain ⟨i1, i2, i3, i4, i5⟩ := ih (o + 1) (w.setCell ⟨b, o, none⟩ v)
      rw [World.setCells]
      refine ⟨i1.trans rfl, i2.trans rfl, i3.trans rfl, i4.trans (by simp [World.setCell]), fun k hk => (i5 k hk).trans (by simp [World.setCell, Array.getElem?_modify, Ne.symm hk])⟩
  obtain ⟨kb1, kb2, kb3, kb4, kb5⟩ := hkb (ys.map (Value.int .i64)) off (w.drewN q)
  have hsz : ((w.drewN q).setCells b off (ys.map (Value.int .i64))).heap.size = w.heap.size := kb4
  have hold : ∀ k, k < w.heap.size → (Go.Sort.grow ((w.drewN q).setCells b off (ys.map (Value.int .i64))) os).heap[k]? = ((w.drewN q).setCells b off (ys.map (Value.int .i64))).heap[k]? := fun k hk => Go.Sort.heap_grow_old _ os (by rw [hsz]; exact hk)
  have hoth : ∀ k, k < w.heap.size → k ≠ b → (Go.Sort.grow ((w.drewN q).setCells b off (ys.map (Value.int .i64))) os).heap[k]? = w.heap[k]? := fun k hk hne => by
    rw [hold k hk, kb5 k hne]; rfl
  have hgs : w.heap.size ≤ (Go.Sort.grow ((w.drewN q).setCells b off (ys.map (Value.int .i64))) os).heap.size := by
    show _ ≤ (((w.drewN q).setCells b off (ys.map (Value.int .i64))).heap ++ os).size
    rw [Array.size_append, hsz]
    exact Nat.le_add_right _ _
  refine ⟨⟨?_, ?_, ?_, hgs, fun k hk hn => ⟨hoth k hk (fun e => hn (by rw [e]; unfold Ow; rw [ho]; simp)), hn⟩, fun k hk => ⟨hoth k (hlt k (by unfold Ow; rw [hk]; simp)) (fun e => ?_), hk⟩⟩, fun k hk => Nat.lt_of_lt_of_le (hlt k hk) hgs, c', by rw [hold b hb, h1], h2, fun j hj => ?_⟩
  · exact kb1
  · exact kb2
  · exact kb3
  · rw [e, ho] at hk; exact hoe (Option.some.inj hk)
  · rw [h3 j (by simpa using hj)]; simp [hj]
@[reducible] def sortS : Sig := ⟨[.mu (.arr (.int .i64))], []⟩
def sortF (x : Tup sortS.ins) : Option (El (outTy sortS.outs)) := bif limB (x.1 : List Int).length then some (isort (x.1 : List Int)) else none
theorem sort_sound {f : Nat} (henter : ∀ args w, (callFunc f args).run P w = .ok (.enter f args) w)
    (h0 : ∀ (p : Option Addr) (cap : Nat) (w : World), Calls P f #[.slice p 0 cap] w fun e w' => e = .returned (.tuple #[]) ∧ w' = w)
    (h1 : ∀ (blk off cap : Nat) (zs : List Int) (w : World), Go.Sort.Holds (Value.int .i64) w blk off zs.toArray → blk < w.heap.size → zs.length < 4611686018427387904 →
      Calls P f #[.slice (some ⟨blk, off, none⟩) zs.length cap] w fun e w' => e = .returned (.tuple #[]) ∧ ∃ n os, w' = Go.Sort.grow (Go.Sort.putRow (Value.int .i64) (Sort.ahead w n) blk off (zs.mergeSort fun x y => decide (x ≤ y)).toArray) os) :
    Sound P f ⟨sortS, sortF⟩ := by
  refine ⟨henter, fun ρ w args x y hy hlt hp => ?_⟩
  obtain ⟨v, rfl, d, e0, h⟩ := one_arg hp
  obtain ⟨xs', u⟩ := x
  obtain ⟨xs, rfl⟩ : ∃ xs : List Int, xs = xs' := ⟨xs', rfl⟩
  have hl : limB xs.length = true ∧ y = (xs.mergeSort fun x y => decide (x ≤ y)) := by
    have hy' : (bif limB xs.length then some (isort xs) else none) = some y := hy
    rw [← mergeSort_isort] at hy'
    cases hl : limB xs.length with
    | true => rw [hl] at hy'; exact ⟨rfl, (Option.some.inj hy').symm⟩
    | false => rw [hl] at hy'; cases hy'
  obtain ⟨hl, rfl⟩ := hl
  have hl : xs.length ≤ LIM := by simpa [limB] using hl
  have e0' : ([⟨.sl (.int .i64), xs⟩] : List DL) = [d] := e0
  cases e0'
  obtain ⟨zs, e1, h⟩ := h
  cases e1
  have fin : ∀ {ρ' : Nat → Option Own} {w' : World} {v' : Value}, ArrRep ρ' w' (.at_ (.tmp 0)) (.int .i64) (xs.mergeSort fun x y => decide (x ≤ y)) v → ∃ d1 d2, unOut sortS.outs (xs.mergeSort fun x y => decide (x ≤ y)) = d1 ++ d2 ∧ ResAll ρ' w' sortS.res d1 v' ∧ OutsRep ρ' w' 0 sortS.pars d2 (#[v] : Array Value).toList :=
    fun h => ⟨[], [⟨.sl (.int .i64), (xs.mergeSort fun x y => decide (x ≤ y) : List Int)⟩], rfl, rfl, [_], [], v, [], rfl, rfl, ⟨_, rfl, _, rfl, h⟩, rfl, rfl⟩
  rcases h with ⟨rfl, rfl⟩ | ⟨b, off, cap, c, el, rfl, hcap, ho, hh, hsz, hc⟩
  · refine (h0 none 0 w).mono ?_
    rintro e w' ⟨rfl, rfl⟩
    exact ⟨_, ρ, rfl, Fr.refl _ _, hlt, fin (.inl ⟨by simp, rfl⟩)⟩
  · have hH := holds_of hh hc
    have hw : width (.int .i64) = 1 := rfl
    refine (h1 b off cap xs w hH (hlt b (by unfold Ow; rw [ho]; simp)) (by unfold LIM at hl; omega)).mono ?_
    rintro e w' ⟨rfl, q, os, rfl⟩
    rw [Go.Lib.putRow_eq_setCells _ _ _ _ xs.toArray _ q hH (by simp)]
    obtain ⟨k1, k2, c', k3, k4, k5⟩ := row_out (q := q) (off := off) (os := os) (ys := xs.mergeSort fun x y => decide (x ≤ y)) hlt ho (by simp) hh (by simp; rw [hw] at hsz; omega)
    refine ⟨_, ρ, rfl, k1, k2, fin (.inr ⟨b, off, cap, c', el, by simp, by simpa using hcap, ho, k3, by rw [k4]; exact hsz, fun j hj => ⟨_, rfl, ?_⟩⟩)⟩
    intro i v hi
    cases i with
    | zero => cases hi; rw [hw]; simpa using k5 j hj
    | succ i => simp at hi
@[reducible] def compactS : Sig := ⟨[.v (.arr (.int .i64))], [.v (.arr (.int .i64))]⟩
def compactF (x : Tup compactS.ins) : Option (El (outTy compactS.outs)) := bif limB (x.1 : List Int).length then some (Lib.compact (x.1 : List Int)) else none
theorem compact_sound {f : Nat} (henter : ∀ args w, (callFunc f args).run P w = .ok (.enter f args) w)
    (h0 : ∀ (p : Option Addr) (cap : Nat) (w : World), Calls P f #[.slice p 0 cap] w fun e w' => e = .returned (.slice p 0 cap) ∧ w' = w)
    (h1 : ∀ (b off n c : Nat) (zs : List Int) (w : World), n ≤ zs.length → n ≤ 9223372036854775807 → n ≤ c → (∀ j, j < zs.length → w.cell? ⟨b, off + j, none⟩ = some (.int .i64 (zs.getD j 0))) → (∀ j, j < n → w.frozen? ⟨b, off + j, none⟩ = false) →
      Calls P f #[.slice (some ⟨b, off, none⟩) n c] w fun e w' => e = .returned (.slice (some ⟨b, off, none⟩) (Lib.compact (zs.take n)).length c) ∧ ∃ q, w' = (w.drewN q).setCells b off ((Lib.compact (zs.take n) ++ List.replicate (n - (Lib.compact (zs.take n)).length) 0).map (Value.int .i64))) :
    Sound P f ⟨compactS, compactF⟩ := by
  refine ⟨henter, fun ρ w args x y hy hlt hp => ?_⟩
  obtain ⟨v, rfl, d, e0, h⟩ := one_arg hp
  obtain ⟨xs', u⟩ := x
  obtain ⟨xs, rfl⟩ : ∃ xs : List Int, xs = xs' := ⟨xs', rfl⟩
  have hl : limB xs.length = true ∧ y = Lib.compact xs := by
    have hy' : (bif limB xs.length then some (Lib.compact xs) else none) = some y := hy
    cases hl : limB xs.length with
    | true => rw [hl] at hy'; exact ⟨rfl, (Option.some.inj hy').symm⟩
    | false => rw [hl] at hy'; cases hy'
  obtain ⟨hl, rfl⟩ := hl
  have hl : xs.length ≤ LIM := by simpa [limB] using hl
  have e0' : ([⟨.sl (.int .i64), xs⟩] : List DL) = [d] := e0
  cases e0'
  obtain ⟨zs, e1, h⟩ := h
  cases e1
  have fin : ∀ {ρ' : Nat → Option Own} {w' : World} {v' : Value}, ArrRep ρ' w' (.at_ (.comp 0 0)) (.int .i64) (Lib.compact xs) v' → ∃ d1 d2, unOut compactS.outs (Lib.compact xs) = d1 ++ d2 ∧ ResAll ρ' w' compactS.res d1 v' ∧ OutsRep ρ' w' 0 compactS.pars d2 (#[v] : Array Value).toList :=
    fun h => ⟨[⟨.sl (.int .i64), (Lib.compact xs : List Int)⟩], [], rfl, ⟨_, rfl, _, rfl, h⟩, [], [], v, [], rfl, rfl, rfl, rfl, rfl⟩
  rcases h with ⟨rfl, rfl⟩ | ⟨b, off, cap, c, el, rfl, hcap, ho, hh, hsz, hc⟩
  · refine (h0 none 0 w).mono ?_
    rintro e w' ⟨rfl, rfl⟩
    exact ⟨_, ρ, rfl, Fr.refl _ _, hlt, fin (.inl ⟨rfl, rfl⟩)⟩
  · have hH := holds_of hh hc
    have hw : width (.int .i64) = 1 := rfl
    have hcl := Lib.compact_length_le xs
    refine (h1 b off xs.length cap xs w (Nat.le_refl _) (by unfold LIM at hl; omega) hcap (fun j hj => ?_) (fun j hj => (hH j (by simpa using hj)).2)).mono ?_
    · rw [(hH j (by simpa using hj)).1]
      simp [hj]
    rintro e w' ⟨rfl, q, rfl⟩
    rw [List.take_length]
    obtain ⟨k1, k2, c', k3, k4, k5⟩ := row_out (q := q) (off := off) (os := #[]) (ys := Lib.compact xs ++ List.replicate (xs.length - (Lib.compact xs).length) 0) hlt ho (by simp) hh (by simp; rw [hw] at hsz; omega)
    have hg : ∀ w : World, Go.Sort.grow w #[] = w := fun w => by simp [Go.Sort.grow]
    rw [hg] at k1 k2 k3
    let ρ' : Nat → Option Own := fun k => match decide (k = b) with | true => some (.at_ (.comp 0 0)) | false => ρ k
    have hO : ∀ k, Ow ρ' k ↔ Ow ρ k := fun k => by
      show (match decide (k = b) with | true => some (.at_ (.comp 0 0)) | false => ρ k) ≠ none ↔ ρ k ≠ none
      by_cases e : k = b
      · subst e; simp [ho]
      · simp [e]
    refine ⟨_, ρ', rfl, ⟨k1.os, k1.tape, k1.output, k1.size, fun k h1 h2 => ⟨(k1.free k h1 h2).1, fun h => h2 ((hO k).1 h)⟩, fun k hk => ⟨(k1.ext k hk).1, ?_⟩⟩, fun k hk => k2 k ((hO k).1 hk), fin (.inr ⟨b, off, cap, c', el, rfl, by omega, by simp [ρ'], k3, by rw [k4]; exact hsz, fun j hj => ⟨_, rfl, ?_⟩⟩)⟩
    · have : k ≠ b := fun e => by subst e; rw [ho] at hk; cases hk
      simp [ρ', this, hk]
    intro i v hi
    cases i with
    | zero =>
      cases hi
      rw [hw]
      have := k5 j (by simp; omega)
      rw [List.getElem_append_left hj] at this
      simpa using this
    | succ i => simp at hi
end
end Go.Proofs.Ytbgefphoochgcaa.FE
