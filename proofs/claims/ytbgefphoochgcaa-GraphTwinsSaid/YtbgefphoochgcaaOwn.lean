/- Rows of a call's own: what stores into them do; slices.DeleteFunc and slices.IndexFunc over them. -/
import Derived.Lib.SortBridge
import Derived.Lib.AppendZerosOnto
import Derived.Lib.SliceRun
import Derived.Lib.RowBridge
import Derived.Test.YtbgefphoochgcaaAid
import Derived.Test.YtbgefphoochgcaaWWords
import Derived.Test.YtbgefphoochgcaaWLast
import Derived.Test.YtbgefphoochgcaaWMore
import Derived.Test.YtbgefphoochgcaaShelf
namespace Go.Proofs.Ytbgefphoochgcaa
open Go.RowKit Go.Proofs.YtbgefphoochgcaaW.PrintWords Go.Proofs.YtbgefphoochgcaaW.PrintLast Go.Proofs.YtbgefphoochgcaaW.PrintMore

def putFrom : List Int → Nat → List Int → List Int
  | xs, _, [] => xs
  | xs, o, x :: vs => putFrom (xs.set o x) (o + 1) vs
theorem putFrom_eq : ∀ (vs xs : List Int) (o : Nat), o + vs.length ≤ xs.length → putFrom xs o vs = xs.take o ++ vs ++ xs.drop (o + vs.length)
  | [], xs, o => by simp [putFrom]
  | x :: vs, xs, o => by
    intro h
    simp only [List.length_cons] at h
    simp only [putFrom]
    rw [putFrom_eq vs (xs.set o x) (o + 1) (by rw [List.length_set]; omega)]
    have h1 : (xs.set o x).take (o + 1) = xs.take o ++ [x] := by
      rw [List.take_succ_eq_append_getElem (by rw [List.length_set]; omega), List.take_set_of_le (Nat.le_refl _)]
      simp
    have h2 : (xs.set o x).drop (o + 1 + vs.length) = xs.drop (o + (vs.length + 1)) := by
      rw [List.drop_set_of_lt (by omega)]
      congr 1
      omega
    rw [h1, h2]
    simp
theorem R_setCells {e base n cap g : Nat} {ok : Nat → Prop} : ∀ (vs xs : List Int) (o : Nat) (W : World), (Kd.int .i64).R e W base ok (.slice (some ⟨g, 0, none⟩) n cap) xs → (Kd.int .i64).R e (W.setCells g o (vs.map (Value.int .i64))) base ok (.slice (some ⟨g, 0, none⟩) n cap) (putFrom xs o vs)
  | [], _, _, _, h => h
  | x :: vs, xs, o, W, h => by
    have h1 := Kd.R_putn h (o : Int) x
    rw [Int.toNat_natCast] at h1
    exact R_setCells vs (xs.set o x) (o + 1) _ h1
theorem setCells_other (g : Nat) : ∀ (vs : List Value) (o : Nat) (W : World) (i : Nat), i ≠ g → (W.setCells g o vs).heap[i]? = W.heap[i]?
  | [], _, _, _, _ => rfl
  | v :: vs, o, W, i, h => by
    show ((W.setCell ⟨g, o, none⟩ v).setCells g (o + 1) vs).heap[i]? = _
    rw [setCells_other g vs (o + 1) _ i h]
    exact Below.heap_setCell W ⟨g, o, none⟩ v i h
theorem below_cells {B g : Nat} (hg : B ≤ g) {W0 : World} : ∀ (vs : List Value) (o : Nat) {W : World}, Below B W0 W → Below B W0 (W.setCells g o vs)
  | [], _, _, h => h
  | v :: vs, o, _, h => below_cells hg vs (o + 1) (h.setCell (p := ⟨g, o, none⟩) hg v)

theorem setCells_size (g : Nat) : ∀ (vs : List Value) (o : Nat) (W : World), (W.setCells g o vs).heap.size = W.heap.size
  | [], _, _ => rfl
  | v :: vs, o, W => by
    show ((W.setCell ⟨g, o, none⟩ v).setCells g (o + 1) vs).heap.size = _
    rw [setCells_size g vs]
    simp [World.setCell]
theorem sortWorld_heap {α : Type} [Inhabited α] (enc : α → Value) (w : World) (blk off m : Nat) (dk : Array α) (os : Array Obj) (k : Nat) (hk : k ≠ blk) (hs : k < w.heap.size) : (Go.Proofs.sortWorld enc w blk off m dk os).heap[k]? = w.heap[k]? := by
  unfold Go.Proofs.sortWorld
  rw [Go.Sort.heap_grow_old _ os (by rw [Go.Sort.size_putRow]; exact hs)]
  show (w.heap.modify blk _)[k]? = _
  rw [Array.getElem?_modify, if_neg (fun h => hk h.symm)]

theorem holds_R {e base n cap b : Nat} {ok : Nat → Prop} {l : List Int} {w : World} (ho : (Kd.int .i64).R e w base ok (.slice (some ⟨b, 0, none⟩) n cap) l) : Go.Sort.Holds (Value.int .i64) w b 0 l.toArray := by
  intro j hj
  have hj' : j < l.length := by simpa using hj
  have hn : n = l.length := (Kd.R_reads' ho).1
  have := Kd.R_celln (0 : Int) ho (j : Int) (by omega) (by omega)
  rw [Int.toNat_natCast] at this
  rw [Nat.zero_add]
  refine ⟨?_, this.2⟩
  rw [this.1]
  congr 2
  rw [getElem!_pos l.toArray j hj]
  simp [rdOf, List.getD_eq_getElem?_getD, hj']
/-- slices.DeleteFunc of a row of the call's own: what is asked of the function value is asked in every world that has all of the caller's but that row. -/
theorem delfunc_R (e base : Nat) (he : e = 3) (ok : Nat → Prop) (v : Value) (l : List Int) (w w0 : World) (g : Nat) (lb : Array Value) (p : Int → Bool) (eg : ∀ args w, (callFunc g args).run Try.prog w = .ok (.enter g args) w)
    (hp : ∀ W x, (∀ k, k < w.heap.size → some k ≠ v.ownBlock → W.heap[k]? = w.heap[k]?) → FnGives Try.prog g lb #[.int .i64 x] (.bool (p x)) W) (ho : (Kd.int .i64).R e w base ok v l) (hB : Below base w0 w) :
    Calls Try.prog 45 #[v, .func (.func g) #[] lb] w fun e' w' => ∃ v' : Value, e' = .returned v' ∧ (Kd.int .i64).R e w' base ok v' (l.filter fun x => !p x) ∧ Below base w0 w' ∧ v'.ownBlock = v.ownBlock ∧ w.heap.size = w'.heap.size ∧ ∀ k, some k ≠ v.ownBlock → w'.heap[k]? = w.heap[k]? := by
  subst he
  by_cases h0 : l = []
  · subst h0
    obtain ⟨A, c, rfl, hc, hC⟩ := Kd.R_reads ho
    have hcon : Calls Try.prog 50 #[.slice A 0 c, .func (.func g) #[] lb] w fun e w' => e = .returned (.int .i64 (-1)) ∧ w' = w := by
      first
      | exact Try.slices_IndexFunc_empty (α := Int) A c _ w
      | exact Try.slices_IndexFunc_empty_f50 (α := Int) A c _ w
    clear hp
    go_enter Try.func45, Try.ntmps45
    go_wp2_with (go_at_call 50; refine hcon.mono ?_; rintro e w' ⟨rfl, rfl⟩)
    go_ret
    exact ⟨_, rfl, ho, hB, rfl, rfl, fun _ _ => rfl⟩
  · have h1 : 0 < l.length := List.length_pos_iff.2 h0
    obtain ⟨b, cap, rfl, hbg, hlt, cells, hcells⟩ := Kd.R_form ho h1
    obtain ⟨hn, hnc, hC⟩ := Kd.R_reads' ho
    have hH : Go.Sort.Holds (Value.int .i64) w b 0 l.toArray := by
      intro j hj
      have hj' : j < l.length := by simpa using hj
      have := Kd.R_celln (0 : Int) ho (j : Int) (by omega) (by omega)
      rw [Int.toNat_natCast] at this
      rw [Nat.zero_add]
      refine ⟨?_, this.2⟩
      rw [this.1]
      congr 2
      rw [getElem!_pos l.toArray j hj]
      simp [rdOf, List.getD_eq_getElem?_getD, hj']
    have hsz := hC.2.1
    refine (Try.slices_DeleteFunc (Value.int .i64) (fun _ => rfl) p g lb eg 0 Try.zeroValue3 b 0 cap l.toArray w (fun W x hb => hp W x (fun k hk _ => hb.block k hk)) (fun n os dk x _ => hp _ x (fun _ hk hne => sortWorld_heap _ w b 0 n dk os _ (by simpa [Value.ownBlock] using hne) hk)) hH (by rw [List.size_toArray]; omega) (by rw [List.size_toArray]; exact hnc)).mono ?_
    rintro e w' ⟨rfl, q, rfl⟩
    have hfl : (l.filter fun x => !p x).length ≤ l.length := List.length_filter_le _ _
    rw [Go.Lib.putRow_eq_setCells _ _ _ _ l.toArray _ q hH (by simp; omega)]
    have hR1 := R_setCells ((l.filter fun x => !p x) ++ List.replicate (l.length - (l.filter fun x => !p x).length) 0) l 0 (w.drewN q) (Kd.R_drewN ho q)
    rw [putFrom_eq _ _ _ (by simp; omega)] at hR1
    have hR2 := Kd.R_take hR1 (m := (l.filter fun x => !p x).length) (by simp)
    have hts : (List.take 0 l ++ ((l.filter fun x => !p x) ++ List.replicate (l.length - (l.filter fun x => !p x).length) (0 : Int)) ++ List.drop (0 + ((l.filter fun x => !p x) ++ List.replicate (l.length - (l.filter fun x => !p x).length) (0 : Int)).length) l).take (l.filter fun x => !p x).length = l.filter fun x => !p x := by
      simp
    rw [hts] at hR2
    refine ⟨_, rfl, hR2, ?_, rfl, ?_, ?_⟩
    · exact below_cells hbg _ _ (pw_below_drewN hB q)
    · rw [setCells_size]; rfl
    · intro k hk
      rw [setCells_other b _ _ _ k (by simpa [Value.ownBlock] using hk)]
      rfl
end Go.Proofs.Ytbgefphoochgcaa
