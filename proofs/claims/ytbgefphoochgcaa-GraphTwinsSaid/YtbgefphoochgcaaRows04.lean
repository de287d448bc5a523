/- How a graph and a part that come in are opened: for the rows of the laws that take them. -/
import Derived.Test.YtbgefphoochgcaaPAx0
import Derived.Lib.SmallJoins
import Derived.Deep.SlicePairs
import Derived.WalkKit
import Derived.ProofKit
import Derived.OpenShut
namespace Go.Proofs.Ytbgefphoochgcaa
open Go.ChangeShapes Go.WideShapes Go.ChangeAt Go.RowKit Go.Joins Go.Deep Go.Proofs.YtbgefphoochgcaaW.PrintWords Go.Proofs.YtbgefphoochgcaaW.PrintLast PA

theorem ints_of {H : Type} {enc : TypeId × Value → H} {W : World} {held : Bool} {fuel : Nat} {v : Value} {y : DataW H × List MemPlace} (h : DataW.trod enc Try.prog W 0 (fun _ => true) held fuel 27 [v] = some y) :
    ∃ A c l, v = .slice A (List.length l) c ∧ Kd.C (Kd.int .i64) W A l.length l ∧ l.length ≤ c ∧ l.length ≤ maxLen ∧ ∀ x ∈ l, (Lit.int .i64 x).wf = true := by
  rcases open_ints Try.underlying27 Try.underlying3 (by kernel_rfl) h with ⟨hcs, _⟩ | ⟨x, len, c, zs, hcs, _, hl, hm, hz, _, hcell, hwz⟩
  · simp only [List.cons.injEq, and_true] at hcs
    subst hcs
    obtain ⟨l, e, hr, hm, hw, hc⟩ := ReadsInt.ofRowC (k := .i64) (w := W) (a := none) (len := 0) (cap := 0) (zs := []) (.inl ⟨rfl, rfl, rfl, rfl⟩)
    exact ⟨none, 0, l, by rw [← e], Kd.C_of_reads (d := (0 : Int)) (h1 := fun _ => rfl) hr, hc, hm, hw⟩
  · simp only [List.cons.injEq, and_true] at hcs
    subst hcs
    obtain ⟨l, e, hr, hm, hw, hc⟩ := ReadsInt.ofRowC (k := .i64) (w := W) (a := some x) (len := len) (cap := c) (zs := zs) (.inr ⟨x, rfl, hl, hm, by simpa using hz, hcell, hwz⟩)
    subst e
    exact ⟨some x, c, l, rfl, Kd.C_of_reads (d := (0 : Int)) (h1 := fun _ => rfl) hr, hc, hm, hw⟩

set_option maxRecDepth 100000 in
theorem open_part {H : Type} {enc : TypeId × Value → H} {W : World} {held : Bool} {base : Nat} {v : Value} {d : DataW H} {p : List MemPlace} (hv : Value.okWide Try.prog W .any base 29 v) (h : DataW.Trod enc Try.prog W 0 (fun _ => true) held 29 v d p) :
    ∃ A0 c0 l0 A1 c1 l1, v = .agg #[.slice A0 (List.length l0) c0, .slice A1 (List.length l1) c1] ∧ (Kd.C (Kd.int .i64) W A0 l0.length l0 ∧ l0.length ≤ c0 ∧ l0.length ≤ maxLen ∧ ∀ x ∈ l0, (Lit.int .i64 x).wf = true) ∧ (Kd.C (Kd.int .i64) W A1 l1.length l1 ∧ l1.length ≤ c1 ∧ l1.length ≤ maxLen ∧ ∀ x ∈ l1, (Lit.int .i64 x).wf = true) := by
  obtain ⟨v0, v1, y0, y1, m, rfl, rfl, rfl, hy0, hy1⟩ := open_agg2 Try.underlying29 (by kernel_rfl) (by kernel_rfl) hv h
  obtain ⟨A0, c0, l0, rfl, h0⟩ := ints_of hy0
  obtain ⟨A1, c1, l1, rfl, h1⟩ := ints_of hy1
  exact ⟨A0, c0, l0, A1, c1, l1, rfl, h0, h1⟩

def numV : Value → Int
  | .int _ n => n
  | _ => 0

set_option maxRecDepth 100000 in
theorem open_graph {H : Type} {enc : TypeId × Value → H} {W : World} {held : Bool} {base : Nat} {v : Value} {d : DataW H} {p : List MemPlace} (hv : Value.okWide Try.prog W .any base 24 v) (h : DataW.Trod enc Try.prog W 0 (fun _ => true) held 24 v d p) :
    ∃ n A c l, v = .agg #[.int .i64 n, .slice A (List.length l) c] ∧ (Lit.int .i64 n).wf = true ∧ Kd.C k56 W A l.length l ∧ l.length ≤ c ∧ l.length ≤ maxLen := by
  obtain ⟨v0, v1, y0, y1, m, rfl, rfl, rfl, hy0, hy1⟩ := open_agg2 Try.underlying24 (by kernel_rfl) (by kernel_rfl) hv h
  obtain ⟨n, e0, -, hw⟩ := DataW.trod_int Try.underlying3 hy0
  simp only [List.cons.injEq, and_true] at e0
  subst e0
  rcases open_slice_pairs Try.underlying22 Try.underlying56 (by kernel_rfl) rfl rfl (by kernel_rfl) (by kernel_rfl) hy1 with ⟨hcs, _⟩ | ⟨a, len, cap, q, fu, V0, V1, D0, D1, P0, P1, hcs, -, hl, hm, hq, -, hx⟩
  · simp only [List.cons.injEq, and_true] at hcs
    subst hcs
    exact ⟨n, none, 0, [], rfl, hw, Kd.C_nil _ _, Nat.le_refl _, Nat.zero_le _⟩
  · simp only [List.cons.injEq, and_true] at hcs
    subst hcs
    simp only [if_true] at hq
    subst hq
    have hlen : ((List.range len).map fun i => (⟨numV (V0 i), numV (V1 i)⟩ : S56)).length = len := by simp
    refine ⟨n, some a, q, (List.range len).map fun i => (⟨numV (V0 i), numV (V1 i)⟩ : S56), by rw [hlen], hw, ?_, by rw [hlen]; exact hl, by rw [hlen]; exact Nat.le_trans hl hm⟩
    rw [hlen]
    refine ⟨hlen, Nat.le_trans hl hm, fun _ => ⟨a, rfl, fun j p hj => ?_⟩⟩
    have hjl : j < len := by
      have := (List.getElem?_eq_some_iff.1 hj).1
      rwa [hlen] at this
    obtain ⟨h0, h1, t0, t1⟩ := hx j (by omega)
    obtain ⟨n0, e0, -, -⟩ := DataW.trod_int Try.underlying3 t0
    obtain ⟨n1, e1, -, -⟩ := DataW.trod_int Try.underlying3 t1
    simp only [List.cons.injEq, and_true] at e0 e1
    rw [e0] at h0
    rw [e1] at h1
    have hp : p = ⟨n0, n1⟩ := by
      rw [List.getElem?_map, List.getElem?_range hjl] at hj
      simp only [Option.map_some, Option.some.injEq, e0, e1, numV] at hj
      exact hj.symm
    subst hp
    refine ⟨[.int .i64 n0, .int .i64 n1], rfl, k56_mk W ⟨n0, n1⟩, fun i u hu => ?_⟩
    match i with
    | 0 => obtain rfl : Value.int .i64 n0 = u := by simpa using hu
           exact h0
    | 1 => obtain rfl : Value.int .i64 n1 = u := by simpa using hu
           exact h1
    | i + 2 => simp at hu
end Go.Proofs.Ytbgefphoochgcaa
