-- Written by wip/tools/gprint.py of this repo (the kit's printer, some functions given).
import Derived.Test.YtcfclhlgjpidhaaPAx0
import Derived.Test.YtcfclhlgjpidhaaPAx5
namespace Go.Proofs.Ytcfclhlgjpidhaa.PA
open Go.RowKit Go.Proofs.YtcfclhlgjpidhaaW.PrintWords Go.Proofs.YtcfclhlgjpidhaaW.PrintLast Go.Proofs.YtcfclhlgjpidhaaW.PrintMore
attribute [local go_sem] max2_int min2_int max_two min_two max_three min_three max_four min_four   -- for this text's walks alone
set_option linter.unusedVariables false
set_option linter.unusedSimpArgs false
set_option linter.unnecessarySimpa false

/-! ### ring_KeepEven: function 57 -/
-- PSEUDO tracery/ring.Keep tracery/ring.KeepEven 1=Go.Operand.func 21
-- PSEUDO tracery/ring.Keep tracery/ring.KeepAll 1=Go.Operand.func 24
-- USES slices.Clone[[]int,int]
theorem keep1_gives (g : Nat) (p : Int → Bool) (eg : ∀ args w, (callFunc g args).run Try.prog w = .ok (.enter g args) w) (hpf : ∀ W x, FnGives Try.prog g #[] #[.int .i64 x] (.bool (p x)) W) (B : Nat) (W : World) (x : Int) (hc : W.cell? ⟨B, 0, none⟩ = some (.func (.func g) #[] #[])) :
    FnGives Try.prog 37 #[.pointer (some ⟨B, 0, none⟩)] #[.int .i64 x] (.bool (!p x)) W := by
  have hcall := fun W => hpf W x
  show Calls Try.prog 37 #[.int .i64 x, .pointer (some ⟨B, 0, none⟩)] W _
  clear hpf
  go_enter Try.func37, Try.ntmps37
  go_wp2_with (go_at_fn g; refine (hcall _).mono ?_; rintro e w' ⟨rfl, q', rfl⟩)
  go_ret
  exact ⟨rfl, _, rfl⟩
set_option maxHeartbeats 4000000 in
set_option maxRecDepth 100000 in
theorem keep_calls (g : Nat) (p : Int → Bool) (eg : ∀ args w, (callFunc g args).run Try.prog w = .ok (.enter g args) w) (hpf : ∀ W x, FnGives Try.prog g #[] #[.int .i64 x] (.bool (p x)) W) (A0 : Option Addr) (c0 : Nat) (l0 : List Int) (w : World) (hr0 : Kd.C (Kd.int .i64) w A0 l0.length l0) (hc0 : l0.length ≤ c0) (hsz : l0.length ≤ 1000000) :
    Calls Try.prog 20 #[.slice A0 l0.length c0, .func (.func g) #[] #[]] w fun e w' => ∃ v0_ : Value, e = .returned (v0_) ∧ Kd.R (Kd.int .i64) 3 w' w.heap.size (fun _ => True) v0_ (l0.filter p) ∧ Below w.heap.size w w' := by
  have HR := Aside0.mk hr0
  have HP := Aside0.mk hpf
  have HG := Aside0.mk eg
  clear hr0 hpf eg
  have hb0 : Below w.heap.size w (w.alloc (.cells #[.func (.func g) #[] #[]] 36)) := below_alloc (Below.refl _ _) _
  have HCL := Aside0.mk (slices_Clone_int_int.calls A0 c0 l0 l0 (w.alloc (.cells #[.func (.func g) #[] #[]] 36)) (Kd.C_below HR.out hb0) hc0 (by unfold slices_Clone_int_int.f; rw [if_pos (by omega)]))
  have HDF := Aside0.mk (fun (W : World) (v : Value) (hO : (Kd.int .i64).R 3 W (w.heap.size + 1) (fun _ => True) v l0) (hB : Below w.heap.size w W) (hc : W.cell? ⟨w.heap.size, 0, none⟩ = some (.func (.func g) #[] #[])) (hlt : w.heap.size < W.heap.size) (hv : some w.heap.size ≠ v.ownBlock) =>
    delfunc_R 3 w.heap.size rfl (fun _ => True) v l0 W w 37 #[.pointer (some ⟨w.heap.size, 0, none⟩)] (fun x => !p x) (enters_of Try.func37 (by kernel_rfl) rfl)
      (fun W' x hk => keep1_gives g p HG.out HP.out w.heap.size W' x (by rw [← hc]; exact World.cell?_of_block (hk w.heap.size hlt hv))) (Kd.R_lower hO (by omega)) hB)
  clear HP HG
  have hsize : (w.alloc (.cells #[.func (.func g) #[] #[]] 36)).heap.size = w.heap.size + 1 := Array.size_push _
  go_enter Try.func20, Try.ntmps20
  go_wp2_with (first | (go_at_call 27; refine HCL.out.mono ?_; rintro e w1 ⟨v0, rfl, ho, hb⟩; rw [hsize] at ho hb; have HO := Aside0.mk ho; have HB := Aside0.mk hb; clear ho hb) | (go_at_call 36; refine (HDF.out w1 v0 HO.out (hb0.trans (HB.out.mono (by omega))) ((HB.out.cell (p := ⟨w.heap.size, 0, none⟩) (by show w.heap.size < w.heap.size + 1; omega)).trans (by simp)) (by have := HB.out.size; omega) (fun hv => by have := Kd.R_base HO.out _ hv.symm; omega)).mono ?_; rintro e w2 ⟨v1, rfl, ho1, hb1, -, -, -⟩))
  go_ret
  exact ⟨_, rfl, by simpa using ho1, hb1⟩
def ring_KeepEven.f (l0 : List Int) : Option (List Int) := if l0.length ≤ 1000000 then some (l0.filter fun x => Int.tmod x 2 == 0) else none
theorem even_gives (W : World) (x : Int) : FnGives Try.prog 21 #[] #[.int .i64 x] (.bool (Int.tmod x 2 == 0)) W := by
  unfold FnGives
  go_enter Try.func21, Try.ntmps21
  go_wp2
  go_ret
  exact ⟨rfl, 0, rfl⟩
theorem ring_KeepEven.calls (A0 : Option Addr) (c0 : Nat) (l0 : List Int) (r : List Int) (w : World) (hr0 : Kd.C (Kd.int .i64) w A0 l0.length l0) (hc0 : l0.length ≤ c0) (h : ring_KeepEven.f l0 = some r) :
    Calls Try.prog 20 #[.slice A0 l0.length c0, .func (.func 21) #[] #[]] w fun e w' => ∃ v0_ : Value, e = .returned (v0_) ∧ Kd.R (Kd.int .i64) 3 w' w.heap.size (fun _ => True) v0_ r ∧ Below w.heap.size w w' := by
  unfold ring_KeepEven.f at h
  by_cases hsz : l0.length ≤ 1000000
  rotate_left
  · rw [if_neg hsz] at h; cases h
  rw [if_pos hsz] at h
  obtain rfl := Option.some.inj h
  exact keep_calls _ _ (enters_of Try.func21 (by kernel_rfl) rfl) even_gives A0 c0 l0 w hr0 hc0 hsz
def ring_KeepAll.f (l0 : List Int) : Option (List Int) := if l0.length ≤ 1000000 then some l0 else none
theorem all_gives (W : World) (x : Int) : FnGives Try.prog 24 #[] #[.int .i64 x] (.bool true) W := by
  unfold FnGives
  go_enter Try.func24, Try.ntmps24
  go_wp2
  go_ret
  exact ⟨rfl, 0, rfl⟩
theorem ring_KeepAll.calls (A0 : Option Addr) (c0 : Nat) (l0 : List Int) (r : List Int) (w : World) (hr0 : Kd.C (Kd.int .i64) w A0 l0.length l0) (hc0 : l0.length ≤ c0) (h : ring_KeepAll.f l0 = some r) :
    Calls Try.prog 20 #[.slice A0 l0.length c0, .func (.func 24) #[] #[]] w fun e w' => ∃ v0_ : Value, e = .returned (v0_) ∧ Kd.R (Kd.int .i64) 3 w' w.heap.size (fun _ => True) v0_ r ∧ Below w.heap.size w w' := by
  unfold ring_KeepAll.f at h
  by_cases hsz : l0.length ≤ 1000000
  rotate_left
  · rw [if_neg hsz] at h; cases h
  rw [if_pos hsz] at h
  obtain rfl := Option.some.inj h
  have := keep_calls _ (fun _ => true) (enters_of Try.func24 (by kernel_rfl) rfl) all_gives A0 c0 l0 w hr0 hc0 hsz
  rwa [List.filter_eq_self.2 (fun _ _ => rfl)] at this


end Go.Proofs.Ytcfclhlgjpidhaa.PA
