/- Printed by femit.py: Lean functions for Go functions, each held equal to what the evaluator finds. -/
import Derived.Test.YtbgefphoochgcaaFeM3
import Derived.Test.YtbgefphoochgcaaProg
import Derived.Test.YtbgefphoochgcaaShelf
import Derived.KernelRfl
namespace Go.Proofs.Ytbgefphoochgcaa.FX
open Go Go.Proofs.Ytbgefphoochgcaa.FE
set_option linter.unusedVariables false
def T : Tab := [none,
  none,
  some ⟨1, .int .i64, (.int .i64)⟩,
  some ⟨1, .int .i64, (.int .i64)⟩,
  some ⟨1, .bool, .bool⟩,
  some ⟨1, .int .u8, (.int .u8)⟩,
  some ⟨1, .int .u8, (.int .u8)⟩,
  some ⟨4, .st [(0, 2), (1, 3), (2, 4), (3, 6)], (.st (.pair (.int .i64) (.pair (.int .i64) (.pair .bool (.int .u8)))))⟩,
  some ⟨4, .st [(0, 2), (1, 3), (2, 4), (3, 6)], (.st (.pair (.int .i64) (.pair (.int .i64) (.pair .bool (.int .u8)))))⟩,
  some ⟨1, .str, .str⟩,
  some ⟨1, .str, .str⟩,
  some ⟨1, .str, .str⟩,
  some ⟨1, .int .u64, (.int .u64)⟩,
  some ⟨2, .st [(0, 9), (1, 12)], (.st (.pair .str (.int .u64)))⟩,
  some ⟨2, .st [(0, 9), (1, 12)], (.st (.pair .str (.int .u64)))⟩,
  some ⟨1, .ptr 92, .unit⟩,
  some ⟨1, .ptr 95, .unit⟩,
  some ⟨1, .ptr 104, .unit⟩,
  none,
  none,
  none,
  some ⟨1, .int .i32, (.int .i32)⟩,
  some ⟨1, .sl 56, (.sl (.st (.pair (.int .i64) (.int .i64))))⟩,
  some ⟨2, .st [(0, 3), (1, 22)], (.st (.pair (.int .i64) (.sl (.st (.pair (.int .i64) (.int .i64))))))⟩,
  some ⟨2, .st [(0, 3), (1, 22)], (.st (.pair (.int .i64) (.sl (.st (.pair (.int .i64) (.int .i64))))))⟩,
  none,
  none,
  some ⟨1, .sl 3, (.sl (.int .i64))⟩,
  some ⟨2, .st [(0, 27), (1, 27)], (.st (.pair (.sl (.int .i64)) (.sl (.int .i64))))⟩,
  some ⟨2, .st [(0, 27), (1, 27)], (.st (.pair (.sl (.int .i64)) (.sl (.int .i64))))⟩,
  none,
  none,
  some ⟨1, .int .i64, (.int .i64)⟩,
  none,
  none,
  none,
  none,
  none,
  none,
  none,
  none,
  none,
  none,
  none,
  none,
  none,
  none,
  none,
  none,
  none,
  none,
  none,
  none,
  none,
  none,
  some ⟨2, .st [(0, 3), (1, 3)], (.st (.pair (.int .i64) (.int .i64)))⟩,
  some ⟨2, .st [(0, 3), (1, 3)], (.st (.pair (.int .i64) (.int .i64)))⟩,
  none,
  none,
  none,
  none,
  none,
  none,
  none,
  none,
  none,
  none,
  some ⟨1, .int .u64, (.int .u64)⟩,
  none,
  none,
  none,
  some ⟨1, .int .i64, (.int .i64)⟩,
  none,
  none,
  none,
  none,
  none,
  none,
  some ⟨1, .int .u32, (.int .u32)⟩,
  none,
  some ⟨1, .int .u64, (.int .u64)⟩,
  some ⟨1, .int .u64, (.int .u64)⟩,
  none,
  none,
  none,
  some ⟨1, .ptr 3, .unit⟩,
  none,
  some ⟨1, .ptr 81, .unit⟩,
  none,
  none,
  none,
  none,
  none,
  none,
  none,
  none,
  none,
  some ⟨1, .int .u8, (.int .u8)⟩,
  some ⟨1, .int .u8, (.int .u8)⟩,
  none,
  some ⟨1, .ptr 5, .unit⟩,
  some ⟨1, .int .i32, (.int .i32)⟩,
  some ⟨1, .int .i32, (.int .i32)⟩]
theorem T_ok : TabOk Go.Proofs.Try.prog T := TabOk.of (by kernel_rfl)
def TabS (P : Program) (l : List (Nat × Fun)) : Prop := ∀ f fn, funGet l f = some fn → Sound P f fn
theorem TabS.nil {P : Program} : TabS P [] := fun f fn h => by cases h
theorem TabS.cons {P : Program} {f : Nat} {fn : Fun} {l : List (Nat × Fun)} (h : Sound P f fn) (t : TabS P l) : TabS P ((f, fn) :: l) := by
  intro g gn hg
  simp only [funGet] at hg
  split at hg
  · rename_i e
    cases hg
    exact (Nat.eq_of_beq_eq_true e) ▸ h
  · exact t g gn hg
def TabH (P : Program) (l : List (Nat × Hof)) : Prop := ∀ f h, funGet l f = some h → SoundH P f h
theorem TabH.nil {P : Program} : TabH P [] := fun f fn h => by cases h
theorem TabH.cons {P : Program} {f : Nat} {fn : Hof} {l : List (Nat × Hof)} (h : SoundH P f fn) (t : TabH P l) : TabH P ((f, fn) :: l) := by
  intro g gn hg
  simp only [funGet] at hg
  split at hg
  · rename_i e
    cases hg
    exact (Nat.eq_of_beq_eq_true e) ▸ h
  · exact t g gn hg
theorem CloS.none {Ω : Type} {P : Program} {C : CloRep Ω} : ∀ cl : CloG Ω, (Option.none : Option (CloG Ω)) = Option.some cl → CloOk P C cl.as cl.b cl.g := fun cl h => by cases h
theorem CloS.some {Ω : Type} {P : Program} {C : CloRep Ω} {al : List Ty} {b : Ty} {g : Ω → Tup al → Option (El b × Ω)} (h : CloOk P C al b g) : ∀ cl : CloG Ω, (Option.some ⟨al, b, g⟩ : Option (CloG Ω)) = Option.some cl → CloOk P C cl.as cl.b cl.g := fun cl e => by cases e; exact h
theorem fun_sound (hT : TabOk Go.Proofs.Try.prog T) {Φ : Env Unit} (hΦ : EnvOk Go.Proofs.Try.prog noClo Φ) {H : Hints} {k f : Nat} {fn : Func} {sg : Sig} (hf : Go.Proofs.Try.prog.funcs[f]? = some fn) (hB : fnB sg fn = true) {g : Tup sg.ins → Option (El (outTy sg.outs))} (he : evFn T Φ H k sg fn = g) : Sound Go.Proofs.Try.prog f ⟨sg, g⟩ :=
  he ▸ fn_sound (by kernel_rfl) hT hΦ hf hB
theorem none_sound (hT : TabOk Go.Proofs.Try.prog T) {f : Nat} {fn : Func} {sg : Sig} (hf : Go.Proofs.Try.prog.funcs[f]? = some fn) (hB : fnB sg fn = true) : Sound Go.Proofs.Try.prog f ⟨sg, fun _ => none⟩ :=
  ⟨(fn_sound (by kernel_rfl) hT env0_ok (H := ⟨[], [], [], []⟩) (fuel := 0) hf hB).enter, fun ρ w args x y h => by cases h⟩
theorem hofs_sound (hT : TabOk Go.Proofs.Try.prog T) {Φ : (Ω : Type) → (bl : List Ty) → (b : Ty) → (Ω → Tup bl → Option (El b × Ω)) → Env Ω} {al : List Ty} {bt : Ty}
    (hΦ : ∀ (Ω : Type) (C : CloRep Ω) (g : Ω → Tup al → Option (El bt × Ω)), CloOk Go.Proofs.Try.prog C al bt g → EnvOk Go.Proofs.Try.prog C (Φ Ω al bt g)) {H : Hints} {k f : Nat} {fn : Func} {sg : Sig} (hf : Go.Proofs.Try.prog.funcs[f]? = some fn) (hB : fnBH sg fn = true)
    {g : (Ω : Type) → (Ω → Tup al → Option (El bt × Ω)) → Ω → Tup sg.ins → Option (El (outTy sg.outs) × Ω)} (he : (fun Ω g s x => evFnH T (Φ Ω al bt g) H k sg fn s x) = g) : SoundH Go.Proofs.Try.prog f ⟨sg, al, bt, g⟩ :=
  he ▸ hof_sound (by kernel_rfl) hT hΦ hf hB

/-! tracery/graph.inside -/
@[reducible] def graph_inside.sig : Sig := ⟨[.v (.dat (.st (.pair (.int .i64) (.sl (.st (.pair (.int .i64) (.int .i64))))))), .v (.dat (.int .i64))], [.v (.dat .bool)]⟩
def graph_inside.hints : Hints := ⟨[], [], [], []⟩
def graph_inside.g (k : Nat) (p0 : (Int × (List (Int × Int)))) (p1 : Int) : Option Bool :=
  bif decide (p1 ≥ 0) then
    some (decide (p1 < p0.1))
  else
    some false
def graph_inside.f (k : Nat) (x : Tup graph_inside.sig.ins) : Option (El (outTy graph_inside.sig.outs)) := graph_inside.g k x.1 x.2.1
def graph_inside.env (k : Nat) : Env Unit := ⟨[], [], none⟩
theorem graph_inside.eq (k : Nat) : evFn T (graph_inside.env k) graph_inside.hints k graph_inside.sig Go.Proofs.Try.f37 = graph_inside.f k := by funext x; kernel_rfl
theorem graph_inside.sound (k : Nat) : Sound Go.Proofs.Try.prog 37 ⟨graph_inside.sig, graph_inside.f k⟩ := fun_sound T_ok (Φ := graph_inside.env k) ⟨TabS.nil, TabH.nil, CloS.none⟩ Go.Proofs.Try.func37 (by kernel_rfl) (graph_inside.eq k)

/-! tracery/graph.Right -/
@[reducible] def graph_Right.sig : Sig := ⟨[.v (.dat (.st (.pair (.int .i64) (.sl (.st (.pair (.int .i64) (.int .i64)))))))], [.v (.dat (.int .i64))]⟩
def graph_Right.hints : Hints := ⟨[], [], [(6, [(.tmp 25, .dat (.int .i64))])], []⟩
def graph_Right.l6 (k : Nat) (p0 : (Int × (List (Int × Int)))) (self : Int → Option (LO Int Unit Int)) (v25 : Int) : Option (LO Int Unit Int) :=
  bif decide (v25 < (p0.2.length : Int)) then
    (idx p0.2 v25).bind fun (y1 : (Int × Int)) =>
    (graph_inside.g k p0 y1.1).bind fun (y2 : Bool) =>
    bif !y2 then
      some (.ret 3)
    else
      (graph_inside.g k p0 y1.2).bind fun (y3 : Bool) =>
      bif !y3 then
        some (.ret 3)
      else
        self (IntKind.i64.wrap (v25 + 1))
  else
    some (.out v25)
def graph_Right.g (k : Nat) (p0 : (Int × (List (Int × Int)))) : Option Int :=
  bif decide (p0.1 < 0) then
    some 3
  else
    bif decide (p0.1 > 1024) then
      some 2
    else
      bif decide ((p0.2.length : Int) > IntKind.i64.wrap (1024 - p0.1)) then
        some 2
      else
        (iter (fun self z4 => graph_Right.l6 k p0 self z4) k 0).bind fun o6 => o6.elim
          (fun z4 =>
            some 0)
          (fun _ => none)
          (fun r5 => some r5)
def graph_Right.f (k : Nat) (x : Tup graph_Right.sig.ins) : Option (El (outTy graph_Right.sig.outs)) := graph_Right.g k x.1
def graph_Right.env (k : Nat) : Env Unit := ⟨[(37, ⟨graph_inside.sig, graph_inside.f k⟩)], [], none⟩
theorem graph_Right.eq (k : Nat) : evFn T (graph_Right.env k) graph_Right.hints k graph_Right.sig Go.Proofs.Try.f12 = graph_Right.f k := by funext x; kernel_rfl
theorem graph_Right.sound (k : Nat) : Sound Go.Proofs.Try.prog 12 ⟨graph_Right.sig, graph_Right.f k⟩ := fun_sound T_ok (Φ := graph_Right.env k) ⟨(TabS.cons (graph_inside.sound k) TabS.nil), TabH.nil, CloS.none⟩ Go.Proofs.Try.func12 (by kernel_rfl) (graph_Right.eq k)

/-! cmp.isNaN[int] -/
@[reducible] def cmp_isNaN.sig : Sig := ⟨[.v (.dat (.int .i64))], [.v (.dat .bool)]⟩
def cmp_isNaN.hints : Hints := ⟨[], [], [], []⟩
def cmp_isNaN.g (k : Nat) (p0 : Int) : Option Bool :=
  some (!(decide (p0 = p0)))
def cmp_isNaN.f (k : Nat) (x : Tup cmp_isNaN.sig.ins) : Option (El (outTy cmp_isNaN.sig.outs)) := cmp_isNaN.g k x.1
def cmp_isNaN.env (k : Nat) : Env Unit := ⟨[], [], none⟩
theorem cmp_isNaN.eq (k : Nat) : evFn T (cmp_isNaN.env k) cmp_isNaN.hints k cmp_isNaN.sig Go.Proofs.Try.f63 = cmp_isNaN.f k := by funext x; kernel_rfl
theorem cmp_isNaN.sound (k : Nat) : Sound Go.Proofs.Try.prog 63 ⟨cmp_isNaN.sig, cmp_isNaN.f k⟩ := fun_sound T_ok (Φ := cmp_isNaN.env k) ⟨TabS.nil, TabH.nil, CloS.none⟩ Go.Proofs.Try.func63 (by kernel_rfl) (cmp_isNaN.eq k)

/-! cmp.Less[int] -/
@[reducible] def cmp_Less.sig : Sig := ⟨[.v (.dat (.int .i64)), .v (.dat (.int .i64))], [.v (.dat .bool)]⟩
def cmp_Less.hints : Hints := ⟨[], [], [], []⟩
def cmp_Less.g (k : Nat) (p0 : Int) (p1 : Int) : Option Bool :=
  (cmp_isNaN.g k p0).bind fun (y1 : Bool) =>
  bif y1 then
    (cmp_isNaN.g k p1).bind fun (y2 : Bool) =>
    bif !y2 then
      some true
    else
      some (decide (p0 < p1))
  else
    some (decide (p0 < p1))
def cmp_Less.f (k : Nat) (x : Tup cmp_Less.sig.ins) : Option (El (outTy cmp_Less.sig.outs)) := cmp_Less.g k x.1 x.2.1
def cmp_Less.env (k : Nat) : Env Unit := ⟨[(63, ⟨cmp_isNaN.sig, cmp_isNaN.f k⟩)], [], none⟩
theorem cmp_Less.eq (k : Nat) : evFn T (cmp_Less.env k) cmp_Less.hints k cmp_Less.sig Go.Proofs.Try.f51 = cmp_Less.f k := by funext x; kernel_rfl
theorem cmp_Less.sound (k : Nat) : Sound Go.Proofs.Try.prog 51 ⟨cmp_Less.sig, cmp_Less.f k⟩ := fun_sound T_ok (Φ := cmp_Less.env k) ⟨(TabS.cons (cmp_isNaN.sound k) TabS.nil), TabH.nil, CloS.none⟩ Go.Proofs.Try.func51 (by kernel_rfl) (cmp_Less.eq k)

/-! slices.isNaN[int] -/
@[reducible] def slices_isNaN.sig : Sig := ⟨[.v (.dat (.int .i64))], [.v (.dat .bool)]⟩
def slices_isNaN.hints : Hints := ⟨[], [], [], []⟩
def slices_isNaN.g (k : Nat) (p0 : Int) : Option Bool :=
  some (!(decide (p0 = p0)))
def slices_isNaN.f (k : Nat) (x : Tup slices_isNaN.sig.ins) : Option (El (outTy slices_isNaN.sig.outs)) := slices_isNaN.g k x.1
def slices_isNaN.env (k : Nat) : Env Unit := ⟨[], [], none⟩
theorem slices_isNaN.eq (k : Nat) : evFn T (slices_isNaN.env k) slices_isNaN.hints k slices_isNaN.sig Go.Proofs.Try.f52 = slices_isNaN.f k := by funext x; kernel_rfl
theorem slices_isNaN.sound (k : Nat) : Sound Go.Proofs.Try.prog 52 ⟨slices_isNaN.sig, slices_isNaN.f k⟩ := fun_sound T_ok (Φ := slices_isNaN.env k) ⟨TabS.nil, TabH.nil, CloS.none⟩ Go.Proofs.Try.func52 (by kernel_rfl) (slices_isNaN.eq k)

/-! slices.BinarySearch[[]int,int] -/
@[reducible] def slices_BinarySearch.sig : Sig := ⟨[.v (.dat (.sl (.int .i64))), .v (.dat (.int .i64))], [.v (.dat (.int .i64)), .v (.dat .bool)]⟩
def slices_BinarySearch.hints : Hints := ⟨[], [], [(3, [(.tmp 7, .dat (.int .i64)), (.tmp 8, .dat (.int .i64))])], []⟩
def slices_BinarySearch.l3 (k : Nat) (p0 : (List Int)) (p1 : Int) (self : (Int × Int) → Option (LO (Int × Int) Unit (Int × Bool))) (v7 : Int) (v8 : Int) : Option (LO (Int × Int) Unit (Int × Bool)) :=
  bif decide (v7 < v8) then
    (idx p0 (IntKind.i64.wrap (Int.fdiv (IntKind.u64.wrap (IntKind.i64.wrap (v7 + v8))) 2))).bind fun (y1 : Int) =>
    (cmp_Less.g k y1 p1).bind fun (y2 : Bool) =>
    bif y2 then
      self ((IntKind.i64.wrap ((IntKind.i64.wrap (Int.fdiv (IntKind.u64.wrap (IntKind.i64.wrap (v7 + v8))) 2)) + 1), v8))
    else
      self ((v7, IntKind.i64.wrap (Int.fdiv (IntKind.u64.wrap (IntKind.i64.wrap (v7 + v8))) 2)))
  else
    some (.out (v7, v8))
def slices_BinarySearch.g (k : Nat) (p0 : (List Int)) (p1 : Int) : Option (Int × Bool) :=
  (iter (fun self z3 => slices_BinarySearch.l3 k p0 p1 self z3.1 z3.2) k (0, (p0.length : Int))).bind fun o3 => o3.elim
    (fun z3 =>
      bif decide (z3.1 < (p0.length : Int)) then
        (idx p0 z3.1).bind fun (y4 : Int) =>
        bif decide (y4 = p1) then
          some (z3.1, true)
        else
          (idx p0 z3.1).bind fun (y5 : Int) =>
          (slices_isNaN.g k y5).bind fun (y6 : Bool) =>
          bif y6 then
            (slices_isNaN.g k p1).bind fun (y7 : Bool) =>
            some (z3.1, y7)
          else
            some (z3.1, false)
      else
        some (z3.1, false))
    (fun _ => none)
    (fun r8 => some r8)
def slices_BinarySearch.f (k : Nat) (x : Tup slices_BinarySearch.sig.ins) : Option (El (outTy slices_BinarySearch.sig.outs)) := slices_BinarySearch.g k x.1 x.2.1
def slices_BinarySearch.env (k : Nat) : Env Unit := ⟨[(51, ⟨cmp_Less.sig, cmp_Less.f k⟩), (52, ⟨slices_isNaN.sig, slices_isNaN.f k⟩)], [], none⟩
theorem slices_BinarySearch.eq (k : Nat) : evFn T (slices_BinarySearch.env k) slices_BinarySearch.hints k slices_BinarySearch.sig Go.Proofs.Try.f47 = slices_BinarySearch.f k := by funext x; kernel_rfl
theorem slices_BinarySearch.sound (k : Nat) : Sound Go.Proofs.Try.prog 47 ⟨slices_BinarySearch.sig, slices_BinarySearch.f k⟩ := fun_sound T_ok (Φ := slices_BinarySearch.env k) ⟨(TabS.cons (cmp_Less.sound k) (TabS.cons (slices_isNaN.sound k) TabS.nil)), TabH.nil, CloS.none⟩ Go.Proofs.Try.func47 (by kernel_rfl) (slices_BinarySearch.eq k)

/-! tracery/graph.Has -/
@[reducible] def graph_Has.sig : Sig := ⟨[.v (.dat (.sl (.int .i64))), .v (.dat (.int .i64))], [.v (.dat .bool)]⟩
def graph_Has.hints : Hints := ⟨[], [], [], []⟩
def graph_Has.g (k : Nat) (p0 : (List Int)) (p1 : Int) : Option Bool :=
  (slices_BinarySearch.g k p0 p1).bind fun (y1 : (Int × Bool)) =>
  some y1.2
def graph_Has.f (k : Nat) (x : Tup graph_Has.sig.ins) : Option (El (outTy graph_Has.sig.outs)) := graph_Has.g k x.1 x.2.1
def graph_Has.env (k : Nat) : Env Unit := ⟨[(47, ⟨slices_BinarySearch.sig, slices_BinarySearch.f k⟩)], [], none⟩
theorem graph_Has.eq (k : Nat) : evFn T (graph_Has.env k) graph_Has.hints k graph_Has.sig Go.Proofs.Try.f34 = graph_Has.f k := by funext x; kernel_rfl
theorem graph_Has.sound (k : Nat) : Sound Go.Proofs.Try.prog 34 ⟨graph_Has.sig, graph_Has.f k⟩ := fun_sound T_ok (Φ := graph_Has.env k) ⟨(TabS.cons (slices_BinarySearch.sound k) TabS.nil), TabH.nil, CloS.none⟩ Go.Proofs.Try.func34 (by kernel_rfl) (graph_Has.eq k)

/-! tracery/graph.rises -/
@[reducible] def graph_rises.sig : Sig := ⟨[.v (.dat (.sl (.int .i64))), .v (.dat (.int .i64))], [.v (.dat .bool)]⟩
def graph_rises.hints : Hints := ⟨[], [], [(3, [(.tmp 10, .dat (.int .i64)), (.tmp 5, .dat (.int .i64))])], []⟩
def graph_rises.l3 (p0 : (List Int)) (p1 : Int) (self : (Int × Int) → Option (LO (Int × Int) Unit Bool)) (v10 : Int) (v5 : Int) : Option (LO (Int × Int) Unit Bool) :=
  bif decide (v10 < (p0.length : Int)) then
    (idx p0 v10).bind fun (y1 : Int) =>
    bif decide (y1 ≤ v5) then
      some (.ret false)
    else
      bif decide (y1 ≥ p1) then
        some (.ret false)
      else
        self (IntKind.i64.wrap (v10 + 1), y1)
  else
    some (.out (v10, v5))
def graph_rises.g (k : Nat) (p0 : (List Int)) (p1 : Int) : Option Bool :=
  (iter (fun self z2 => graph_rises.l3 p0 p1 self z2.1 z2.2) k (0, (-1))).bind fun o3 => o3.elim
    (fun z2 =>
      some true)
    (fun _ => none)
    (fun r3 => some r3)
def graph_rises.f (k : Nat) (x : Tup graph_rises.sig.ins) : Option (El (outTy graph_rises.sig.outs)) := graph_rises.g k x.1 x.2.1
def graph_rises.env (k : Nat) : Env Unit := ⟨[], [], none⟩
theorem graph_rises.eq (k : Nat) : evFn T (graph_rises.env k) graph_rises.hints k graph_rises.sig Go.Proofs.Try.f39 = graph_rises.f k := by funext x; kernel_rfl
theorem graph_rises.sound (k : Nat) : Sound Go.Proofs.Try.prog 39 ⟨graph_rises.sig, graph_rises.f k⟩ := fun_sound T_ok (Φ := graph_rises.env k) ⟨TabS.nil, TabH.nil, CloS.none⟩ Go.Proofs.Try.func39 (by kernel_rfl) (graph_rises.eq k)

/-! tracery/graph.RightPart -/
@[reducible] def graph_RightPart.sig : Sig := ⟨[.v (.dat (.st (.pair (.int .i64) (.sl (.st (.pair (.int .i64) (.int .i64))))))), .v (.dat (.st (.pair (.sl (.int .i64)) (.sl (.int .i64)))))], [.v (.dat (.int .i64))]⟩
def graph_RightPart.hints : Hints := ⟨[], [], [(7, [(.tmp 31, .dat (.int .i64))])], []⟩
def graph_RightPart.l7 (k : Nat) (p0 : (Int × (List (Int × Int)))) (p1 : ((List Int) × (List Int))) (self : Int → Option (LO Int Unit Int)) (v31 : Int) : Option (LO Int Unit Int) :=
  bif decide (v31 < (p1.2.length : Int)) then
    (idx p1.2 v31).bind fun (y4 : Int) =>
    (idx p0.2 y4).bind fun (y5 : (Int × Int)) =>
    (graph_Has.g k p1.1 y5.1).bind fun (y6 : Bool) =>
    bif !y6 then
      some (.ret 4)
    else
      (idx p0.2 y4).bind fun (y7 : (Int × Int)) =>
      (graph_Has.g k p1.1 y7.2).bind fun (y8 : Bool) =>
      bif !y8 then
        some (.ret 4)
      else
        self (IntKind.i64.wrap (v31 + 1))
  else
    some (.out v31)
def graph_RightPart.g (k : Nat) (p0 : (Int × (List (Int × Int)))) (p1 : ((List Int) × (List Int))) : Option Int :=
  (graph_Right.g k p0).bind fun (y1 : Int) =>
  bif !(decide (y1 = 0)) then
    some y1
  else
    (graph_rises.g k p1.1 p0.1).bind fun (y2 : Bool) =>
    bif !y2 then
      some 4
    else
      (graph_rises.g k p1.2 (p0.2.length : Int)).bind fun (y3 : Bool) =>
      bif !y3 then
        some 4
      else
        (iter (fun self z9 => graph_RightPart.l7 k p0 p1 self z9) k 0).bind fun o7 => o7.elim
          (fun z9 =>
            some 0)
          (fun _ => none)
          (fun r10 => some r10)
def graph_RightPart.f (k : Nat) (x : Tup graph_RightPart.sig.ins) : Option (El (outTy graph_RightPart.sig.outs)) := graph_RightPart.g k x.1 x.2.1
def graph_RightPart.env (k : Nat) : Env Unit := ⟨[(12, ⟨graph_Right.sig, graph_Right.f k⟩), (34, ⟨graph_Has.sig, graph_Has.f k⟩), (39, ⟨graph_rises.sig, graph_rises.f k⟩)], [], none⟩
theorem graph_RightPart.eq (k : Nat) : evFn T (graph_RightPart.env k) graph_RightPart.hints k graph_RightPart.sig Go.Proofs.Try.f23 = graph_RightPart.f k := by funext x; kernel_rfl
theorem graph_RightPart.sound (k : Nat) : Sound Go.Proofs.Try.prog 23 ⟨graph_RightPart.sig, graph_RightPart.f k⟩ := fun_sound T_ok (Φ := graph_RightPart.env k) ⟨(TabS.cons (graph_Right.sound k) (TabS.cons (graph_Has.sound k) (TabS.cons (graph_rises.sound k) TabS.nil))), TabH.nil, CloS.none⟩ Go.Proofs.Try.func23 (by kernel_rfl) (graph_RightPart.eq k)

/-! tracery/graph.Darts -/
@[reducible] def graph_Darts.sig : Sig := ⟨[.v (.dat (.st (.pair (.int .i64) (.sl (.st (.pair (.int .i64) (.int .i64))))))), .v (.dat (.st (.pair (.sl (.int .i64)) (.sl (.int .i64))))), .v (.dat (.int .i64))], [.v (.arr (.int .i64))]⟩
def graph_Darts.hints : Hints := ⟨[(8, 3, 1), (8, 4, 1), (10, 4, 1), (10, 5, 1)], [], [(5, [(.tmp 17, .dat (.int .i64)), (.tmp 7, .arr (.int .i64))])], [(9, ⟨[(.tmp 7, .arr (.int .i64))], none⟩)]⟩
def graph_Darts.j9 (p0 : (Int × (List (Int × Int)))) (p2 : Int) (v7 : (List Int)) (y2 : Int) : Option (LO (List Int) Unit (List Int)) :=
  (idx p0.2 y2).bind fun (y3 : (Int × Int)) =>
  bif decide (y3.1 = p2) then
    bif limB (v7.length + ([IntKind.i64.wrap (2 * y2)]).length) then
      some (.out (v7 ++ ([IntKind.i64.wrap (2 * y2)])))
    else
      none
  else
    some (.out v7)
def graph_Darts.l5 (p0 : (Int × (List (Int × Int)))) (p1 : ((List Int) × (List Int))) (p2 : Int) (self : (Int × (List Int)) → Option (LO (Int × (List Int)) Unit (List Int))) (v17 : Int) (v7 : (List Int)) : Option (LO (Int × (List Int)) Unit (List Int)) :=
  bif decide (v17 < (p1.2.length : Int)) then
    (idx p1.2 v17).bind fun (y2 : Int) =>
    (graph_Darts.j9 p0 p2 v7 y2).bind fun o9 => o9.elim
      (fun z4 =>
        (idx p0.2 y2).bind fun (y5 : (Int × Int)) =>
        bif decide (y5.2 = p2) then
          bif limB (z4.length + ([IntKind.i64.wrap ((IntKind.i64.wrap (2 * y2)) + 1)]).length) then
            self ((IntKind.i64.wrap (v17 + 1), z4 ++ ([IntKind.i64.wrap ((IntKind.i64.wrap (2 * y2)) + 1)])))
          else
            none
        else
          self (IntKind.i64.wrap (v17 + 1), z4))
      (fun _ => none)
      (fun r6 => some (.ret r6))
  else
    some (.out (v17, v7))
def graph_Darts.g (k : Nat) (p0 : (Int × (List (Int × Int)))) (p1 : ((List Int) × (List Int))) (p2 : Int) : Option (List Int) :=
  (graph_RightPart.g k p0 p1).bind fun (y1 : Int) =>
  bif !(decide (y1 = 0)) then
    some ([])
  else
    (iter (fun self z7 => graph_Darts.l5 p0 p1 p2 self z7.1 z7.2) k (0, [])).bind fun o5 => o5.elim
      (fun z7 =>
        some z7.2)
      (fun _ => none)
      (fun r8 => some r8)
def graph_Darts.f (k : Nat) (x : Tup graph_Darts.sig.ins) : Option (El (outTy graph_Darts.sig.outs)) := graph_Darts.g k x.1 x.2.1 x.2.2.1
def graph_Darts.env (k : Nat) : Env Unit := ⟨[(23, ⟨graph_RightPart.sig, graph_RightPart.f k⟩)], [], none⟩
theorem graph_Darts.eq (k : Nat) : evFn T (graph_Darts.env k) graph_Darts.hints k graph_Darts.sig Go.Proofs.Try.f14 = graph_Darts.f k := by funext x; kernel_rfl
theorem graph_Darts.sound (k : Nat) : Sound Go.Proofs.Try.prog 14 ⟨graph_Darts.sig, graph_Darts.f k⟩ := fun_sound T_ok (Φ := graph_Darts.env k) ⟨(TabS.cons (graph_RightPart.sound k) TabS.nil), TabH.nil, CloS.none⟩ Go.Proofs.Try.func14 (by kernel_rfl) (graph_Darts.eq k)

/-! tracery/graph.upTo -/
@[reducible] def graph_upTo.sig : Sig := ⟨[.v (.dat (.int .i64))], [.v (.arr (.int .i64))]⟩
def graph_upTo.hints : Hints := ⟨[(5, 2, 1), (5, 3, 1)], [], [(3, [(.tmp 6, .dat (.int .i64)), (.tmp 3, .arr (.int .i64))])], []⟩
def graph_upTo.l3 (p0 : Int) (self : (Int × (List Int)) → Option (LO (Int × (List Int)) Unit (List Int))) (v6 : Int) (v3 : (List Int)) : Option (LO (Int × (List Int)) Unit (List Int)) :=
  bif decide (v6 < p0) then
    bif limB (v3.length + ([v6]).length) then
      self (IntKind.i64.wrap (v6 + 1), v3 ++ ([v6]))
    else
      none
  else
    some (.out (v6, v3))
def graph_upTo.g (k : Nat) (p0 : Int) : Option (List Int) :=
  (iter (fun self z1 => graph_upTo.l3 p0 self z1.1 z1.2) k (0, [])).bind fun o3 => o3.elim
    (fun z1 =>
      some z1.2)
    (fun _ => none)
    (fun r2 => some r2)
def graph_upTo.f (k : Nat) (x : Tup graph_upTo.sig.ins) : Option (El (outTy graph_upTo.sig.outs)) := graph_upTo.g k x.1
def graph_upTo.env (k : Nat) : Env Unit := ⟨[], [], none⟩
theorem graph_upTo.eq (k : Nat) : evFn T (graph_upTo.env k) graph_upTo.hints k graph_upTo.sig Go.Proofs.Try.f38 = graph_upTo.f k := by funext x; kernel_rfl
theorem graph_upTo.sound (k : Nat) : Sound Go.Proofs.Try.prog 38 ⟨graph_upTo.sig, graph_upTo.f k⟩ := fun_sound T_ok (Φ := graph_upTo.env k) ⟨TabS.nil, TabH.nil, CloS.none⟩ Go.Proofs.Try.func38 (by kernel_rfl) (graph_upTo.eq k)

/-! tracery/graph.Whole -/
@[reducible] def graph_Whole.sig : Sig := ⟨[.v (.dat (.st (.pair (.int .i64) (.sl (.st (.pair (.int .i64) (.int .i64)))))))], [.v (.dat (.st (.pair (.sl (.int .i64)) (.sl (.int .i64)))))]⟩
def graph_Whole.hints : Hints := ⟨[(3, 2, 1), (3, 6, 1)], [], [], []⟩
def graph_Whole.g (k : Nat) (p0 : (Int × (List (Int × Int)))) : Option ((List Int) × (List Int)) :=
  (graph_Right.g k p0).bind fun (y1 : Int) =>
  bif !(decide (y1 = 0)) then
    some ([], [])
  else
    (graph_upTo.g k p0.1).bind fun (y2 : (List Int)) =>
    (graph_upTo.g k (p0.2.length : Int)).bind fun (y3 : (List Int)) =>
    some (y2, y3)
def graph_Whole.f (k : Nat) (x : Tup graph_Whole.sig.ins) : Option (El (outTy graph_Whole.sig.outs)) := graph_Whole.g k x.1
def graph_Whole.env (k : Nat) : Env Unit := ⟨[(12, ⟨graph_Right.sig, graph_Right.f k⟩), (38, ⟨graph_upTo.sig, graph_upTo.f k⟩)], [], none⟩
theorem graph_Whole.eq (k : Nat) : evFn T (graph_Whole.env k) graph_Whole.hints k graph_Whole.sig Go.Proofs.Try.f15 = graph_Whole.f k := by funext x; kernel_rfl
theorem graph_Whole.sound (k : Nat) : Sound Go.Proofs.Try.prog 15 ⟨graph_Whole.sig, graph_Whole.f k⟩ := fun_sound T_ok (Φ := graph_Whole.env k) ⟨(TabS.cons (graph_Right.sound k) (TabS.cons (graph_upTo.sound k) TabS.nil)), TabH.nil, CloS.none⟩ Go.Proofs.Try.func15 (by kernel_rfl) (graph_Whole.eq k)

/-! slices.Clone[[]int,int] -/
@[reducible] def slices_Clone.sig : Sig := ⟨[.v (.dat (.sl (.int .i64)))], [.v (.arr (.int .i64))]⟩
def slices_Clone.g (k : Nat) (p0 : List Int) : Option (List Int) := bif limB p0.length then some p0 else none
def slices_Clone.f (k : Nat) (x : Tup slices_Clone.sig.ins) : Option (El (outTy slices_Clone.sig.outs)) := slices_Clone.g k x.1
theorem slices_Clone.sound (k : Nat) : Sound Go.Proofs.Try.prog 40 ⟨slices_Clone.sig, slices_Clone.f k⟩ := clone_sound (by kernel_rfl) T_ok (ts := 27) (E := (.int .i64)) Go.Proofs.Try.func40 (by kernel_rfl) (by kernel_rfl : T.get 27 = some ⟨1, .sl 3, (.sl (.int .i64))⟩) rfl rfl (show Go.Proofs.Try.f40.body = _ from rfl) (by kernel_rfl) (by kernel_rfl)

/-! slices.Sort[[]int,int] -/
@[reducible] def slices_Sort.sig : Sig := ⟨[.mu (.arr (.int .i64))], []⟩
def slices_Sort.g (k : Nat) (p0 : List Int) : Option (List Int) := bif limB p0.length then some (isort p0) else none
def slices_Sort.f (k : Nat) (x : Tup slices_Sort.sig.ins) : Option (El (outTy slices_Sort.sig.outs)) := slices_Sort.g k x.1
theorem slices_Sort.sound (k : Nat) : Sound Go.Proofs.Try.prog 41 ⟨slices_Sort.sig, slices_Sort.f k⟩ := sort_sound (enter_of Go.Proofs.Try.func41 (by kernel_rfl) (by kernel_rfl)) Go.Proofs.Try.slices_Sort_int_none Go.Proofs.Try.slices_Sort_int

/-! slices.Compact[[]int,int] -/
@[reducible] def slices_Compact.sig : Sig := ⟨[.v (.arr (.int .i64))], [.v (.arr (.int .i64))]⟩
def slices_Compact.g (k : Nat) (p0 : List Int) : Option (List Int) := bif limB p0.length then some (Lib.compact p0) else none
def slices_Compact.f (k : Nat) (x : Tup slices_Compact.sig.ins) : Option (El (outTy slices_Compact.sig.outs)) := slices_Compact.g k x.1
theorem slices_Compact.sound (k : Nat) : Sound Go.Proofs.Try.prog 42 ⟨slices_Compact.sig, slices_Compact.f k⟩ := compact_sound (enter_of Go.Proofs.Try.func42 (by kernel_rfl) (by kernel_rfl)) Go.Proofs.Try.slices_Compact_int_empty Go.Proofs.Try.slices_Compact_int_cells

/-! tracery/graph.Span -/
@[reducible] def graph_Span.sig : Sig := ⟨[.v (.dat (.st (.pair (.int .i64) (.sl (.st (.pair (.int .i64) (.int .i64))))))), .v (.dat (.sl (.int .i64)))], [.v (.dat (.st (.pair (.sl (.int .i64)) (.sl (.int .i64))))), .v (.dat (.int .i64))]⟩
def graph_Span.hints : Hints := ⟨[(6, 1, 1), (10, 14, 1), (10, 15, 1), (13, 2, 1)], [], [(8, [(.tmp 28, .dat (.int .i64)), (.bx 7 0, .arr (.int .i64))])], []⟩
def graph_Span.l8 (p0 : (Int × (List (Int × Int)))) (p1 : (List Int)) (self : (Int × (List Int)) → Option (LO (Int × (List Int)) Unit (((List Int) × (List Int)) × Int))) (v28 : Int) (b5_3_0_0 : (List Int)) : Option (LO (Int × (List Int)) Unit (((List Int) × (List Int)) × Int)) :=
  bif decide (v28 < (p1.length : Int)) then
    (idx p1 v28).bind fun (y4 : Int) =>
    (idx p0.2 y4).bind fun (y5 : (Int × Int)) =>
    (idx p0.2 y4).bind fun (y6 : (Int × Int)) =>
    bif limB (b5_3_0_0.length + ([y5.1, y6.2]).length) then
      self (IntKind.i64.wrap (v28 + 1), b5_3_0_0 ++ ([y5.1, y6.2]))
    else
      none
  else
    some (.out (v28, b5_3_0_0))
def graph_Span.g (k : Nat) (p0 : (Int × (List (Int × Int)))) (p1 : (List Int)) : Option (((List Int) × (List Int)) × Int) :=
  (graph_Right.g k p0).bind fun (y1 : Int) =>
  bif !(decide (y1 = 0)) then
    some (([], []), y1)
  else
    (graph_rises.g k p1 (p0.2.length : Int)).bind fun (y2 : Bool) =>
    bif !y2 then
      some (([], []), 4)
    else
      (slices_Clone.g k p1).bind fun (y3 : (List Int)) =>
      (iter (fun self z7 => graph_Span.l8 p0 p1 self z7.1 z7.2) k (0, [])).bind fun o8 => o8.elim
        (fun z7 =>
          (slices_Sort.g k z7.2).bind fun (y8 : (List Int)) =>
          (slices_Compact.g k y8).bind fun (y9 : (List Int)) =>
          some ((y9, y3), 0))
        (fun _ => none)
        (fun r10 => some r10)
def graph_Span.f (k : Nat) (x : Tup graph_Span.sig.ins) : Option (El (outTy graph_Span.sig.outs)) := graph_Span.g k x.1 x.2.1
def graph_Span.env (k : Nat) : Env Unit := ⟨[(12, ⟨graph_Right.sig, graph_Right.f k⟩), (39, ⟨graph_rises.sig, graph_rises.f k⟩), (40, ⟨slices_Clone.sig, slices_Clone.f k⟩), (41, ⟨slices_Sort.sig, slices_Sort.f k⟩), (42, ⟨slices_Compact.sig, slices_Compact.f k⟩)], [], none⟩
theorem graph_Span.eq (k : Nat) : evFn T (graph_Span.env k) graph_Span.hints k graph_Span.sig Go.Proofs.Try.f18 = graph_Span.f k := by funext x; kernel_rfl
theorem graph_Span.sound (k : Nat) : Sound Go.Proofs.Try.prog 18 ⟨graph_Span.sig, graph_Span.f k⟩ := fun_sound T_ok (Φ := graph_Span.env k) ⟨(TabS.cons (graph_Right.sound k) (TabS.cons (graph_rises.sound k) (TabS.cons (slices_Clone.sound k) (TabS.cons (slices_Sort.sound k) (TabS.cons (slices_Compact.sound k) TabS.nil))))), TabH.nil, CloS.none⟩ Go.Proofs.Try.func18 (by kernel_rfl) (graph_Span.eq k)

/-! tracery/tracerylaw04.awake -/
@[reducible] def tracerylaw04_awake.sig : Sig := ⟨[], [.v (.dat .bool)]⟩
def tracerylaw04_awake.hints : Hints := ⟨[(1, 2, 1), (2, 3, 1), (3, 1, 1)], [], [], []⟩
def tracerylaw04_awake.g (k : Nat) : Option Bool :=
  (graph_Whole.g k (2, [(0, 1), (1, 1)])).bind fun (y1 : ((List Int) × (List Int))) =>
  (graph_Darts.g k (2, [(0, 1), (1, 1)]) y1 (1 : Int)).bind fun (y2 : (List Int)) =>
  (graph_Span.g k (2, [(0, 1), (1, 1)]) ([1])).bind fun (y3 : (((List Int) × (List Int)) × Int)) =>
  bif decide ((y2.length : Int) = 3) then
    (idx y2 0).bind fun _ =>
    (idx y2 0).bind fun (y4 : Int) =>
    bif decide (y4 = 1) then
      (idx y2 1).bind fun _ =>
      (idx y2 1).bind fun (y5 : Int) =>
      bif decide (y5 = 2) then
        (idx y2 2).bind fun _ =>
        (idx y2 2).bind fun (y6 : Int) =>
        bif decide (y6 = 3) then
          bif decide (y3.2 = 0) then
            bif decide ((y3.1.1.length : Int) = 1) then
              (idx y3.1.1 0).bind fun (y7 : Int) =>
              bif decide (y7 = 1) then
                some (decide ((y3.1.2.length : Int) = 1))
              else
                some false
            else
              some false
          else
            some false
        else
          some false
      else
        some false
    else
      some false
  else
    some false
def tracerylaw04_awake.f (k : Nat) (x : Tup tracerylaw04_awake.sig.ins) : Option (El (outTy tracerylaw04_awake.sig.outs)) := tracerylaw04_awake.g k
def tracerylaw04_awake.env (k : Nat) : Env Unit := ⟨[(14, ⟨graph_Darts.sig, graph_Darts.f k⟩), (15, ⟨graph_Whole.sig, graph_Whole.f k⟩), (18, ⟨graph_Span.sig, graph_Span.f k⟩)], [], none⟩
theorem tracerylaw04_awake.eq (k : Nat) : evFn T (tracerylaw04_awake.env k) tracerylaw04_awake.hints k tracerylaw04_awake.sig Go.Proofs.Try.f9 = tracerylaw04_awake.f k := by funext x; kernel_rfl
theorem tracerylaw04_awake.sound (k : Nat) : Sound Go.Proofs.Try.prog 9 ⟨tracerylaw04_awake.sig, tracerylaw04_awake.f k⟩ := fun_sound T_ok (Φ := tracerylaw04_awake.env k) ⟨(TabS.cons (graph_Darts.sound k) (TabS.cons (graph_Whole.sound k) (TabS.cons (graph_Span.sound k) TabS.nil))), TabH.nil, CloS.none⟩ Go.Proofs.Try.func9 (by kernel_rfl) (tracerylaw04_awake.eq k)

/-! tracery/tracerylaw04.Small -/
@[reducible] def tracerylaw04_Small.sig : Sig := ⟨[.v (.dat (.st (.pair (.int .i64) (.sl (.st (.pair (.int .i64) (.int .i64))))))), .v (.dat (.st (.pair (.sl (.int .i64)) (.sl (.int .i64)))))], [.v (.dat (.int .i64))]⟩
def tracerylaw04_Small.hints : Hints := ⟨[], [], [], []⟩
def tracerylaw04_Small.g (k : Nat) (p0 : (Int × (List (Int × Int)))) (p1 : ((List Int) × (List Int))) : Option Int :=
  bif decide ((p0.2.length : Int) > 60) then
    some 0
  else
    bif decide ((p1.1.length : Int) > 60) then
      some 0
    else
      bif decide ((p1.2.length : Int) > 60) then
        some 0
      else
        bif decide (p0.1 > 60) then
          bif decide (p0.1 ≤ 1024) then
            some 0
          else
            some 1
        else
          some 1
def tracerylaw04_Small.f (k : Nat) (x : Tup tracerylaw04_Small.sig.ins) : Option (El (outTy tracerylaw04_Small.sig.outs)) := tracerylaw04_Small.g k x.1 x.2.1
def tracerylaw04_Small.env (k : Nat) : Env Unit := ⟨[], [], none⟩
theorem tracerylaw04_Small.eq (k : Nat) : evFn T (tracerylaw04_Small.env k) tracerylaw04_Small.hints k tracerylaw04_Small.sig Go.Proofs.Try.f10 = tracerylaw04_Small.f k := by funext x; kernel_rfl
theorem tracerylaw04_Small.sound (k : Nat) : Sound Go.Proofs.Try.prog 10 ⟨tracerylaw04_Small.sig, tracerylaw04_Small.f k⟩ := fun_sound T_ok (Φ := tracerylaw04_Small.env k) ⟨TabS.nil, TabH.nil, CloS.none⟩ Go.Proofs.Try.func10 (by kernel_rfl) (tracerylaw04_Small.eq k)

/-! tracery/graph.Ends -/
@[reducible] def graph_Ends.sig : Sig := ⟨[.v (.dat (.st (.pair (.int .i64) (.sl (.st (.pair (.int .i64) (.int .i64))))))), .v (.dat (.int .i64))], [.v (.dat (.int .i64)), .v (.dat (.int .i64)), .v (.dat .bool)]⟩
def graph_Ends.hints : Hints := ⟨[], [], [], []⟩
def graph_Ends.g (k : Nat) (p0 : (Int × (List (Int × Int)))) (p1 : Int) : Option (Int × (Int × Bool)) :=
  (graph_Right.g k p0).bind fun (y1 : Int) =>
  bif !(decide (y1 = 0)) then
    some (0, 0, false)
  else
    bif decide (p1 < 0) then
      some (0, 0, false)
    else
      bif decide (IntKind.i64.wrap (Int.tdiv p1 2) ≥ (p0.2.length : Int)) then
        some (0, 0, false)
      else
        (idx p0.2 (IntKind.i64.wrap (Int.tdiv p1 2))).bind fun (y2 : (Int × Int)) =>
        bif decide (Int.tmod p1 2 = 1) then
          some (y2.2, y2.1, true)
        else
          some (y2.1, y2.2, true)
def graph_Ends.f (k : Nat) (x : Tup graph_Ends.sig.ins) : Option (El (outTy graph_Ends.sig.outs)) := graph_Ends.g k x.1 x.2.1
def graph_Ends.env (k : Nat) : Env Unit := ⟨[(12, ⟨graph_Right.sig, graph_Right.f k⟩)], [], none⟩
theorem graph_Ends.eq (k : Nat) : evFn T (graph_Ends.env k) graph_Ends.hints k graph_Ends.sig Go.Proofs.Try.f11 = graph_Ends.f k := by funext x; kernel_rfl
theorem graph_Ends.sound (k : Nat) : Sound Go.Proofs.Try.prog 11 ⟨graph_Ends.sig, graph_Ends.f k⟩ := fun_sound T_ok (Φ := graph_Ends.env k) ⟨(TabS.cons (graph_Right.sound k) TabS.nil), TabH.nil, CloS.none⟩ Go.Proofs.Try.func11 (by kernel_rfl) (graph_Ends.eq k)

/-! tracery/traceryref04.Twin -/
@[reducible] def traceryref04_Twin.sig : Sig := ⟨[.v (.dat (.int .i64))], [.v (.dat (.int .i64))]⟩
def traceryref04_Twin.hints : Hints := ⟨[], [], [], []⟩
def traceryref04_Twin.g (k : Nat) (p0 : Int) : Option Int :=
  bif decide (Int.tmod p0 2 = 0) then
    some (IntKind.i64.wrap (p0 + 1))
  else
    some (IntKind.i64.wrap (p0 - 1))
def traceryref04_Twin.f (k : Nat) (x : Tup traceryref04_Twin.sig.ins) : Option (El (outTy traceryref04_Twin.sig.outs)) := traceryref04_Twin.g k x.1
def traceryref04_Twin.env (k : Nat) : Env Unit := ⟨[], [], none⟩
theorem traceryref04_Twin.eq (k : Nat) : evFn T (traceryref04_Twin.env k) traceryref04_Twin.hints k traceryref04_Twin.sig Go.Proofs.Try.f13 = traceryref04_Twin.f k := by funext x; kernel_rfl
theorem traceryref04_Twin.sound (k : Nat) : Sound Go.Proofs.Try.prog 13 ⟨traceryref04_Twin.sig, traceryref04_Twin.f k⟩ := fun_sound T_ok (Φ := traceryref04_Twin.env k) ⟨TabS.nil, TabH.nil, CloS.none⟩ Go.Proofs.Try.func13 (by kernel_rfl) (traceryref04_Twin.eq k)

/-! tracery/traceryref04.In -/
@[reducible] def traceryref04_In.sig : Sig := ⟨[.v (.dat (.sl (.int .i64))), .v (.dat (.int .i64))], [.v (.dat .bool)]⟩
def traceryref04_In.hints : Hints := ⟨[], [], [(2, [(.tmp 5, .dat (.int .i64))])], []⟩
def traceryref04_In.l2 (p0 : (List Int)) (p1 : Int) (self : Int → Option (LO Int Unit Bool)) (v5 : Int) : Option (LO Int Unit Bool) :=
  bif decide (v5 < (p0.length : Int)) then
    (idx p0 v5).bind fun (y1 : Int) =>
    bif decide (y1 = p1) then
      some (.ret true)
    else
      self (IntKind.i64.wrap (v5 + 1))
  else
    some (.out v5)
def traceryref04_In.g (k : Nat) (p0 : (List Int)) (p1 : Int) : Option Bool :=
  (iter (fun self z2 => traceryref04_In.l2 p0 p1 self z2) k 0).bind fun o2 => o2.elim
    (fun z2 =>
      some false)
    (fun _ => none)
    (fun r3 => some r3)
def traceryref04_In.f (k : Nat) (x : Tup traceryref04_In.sig.ins) : Option (El (outTy traceryref04_In.sig.outs)) := traceryref04_In.g k x.1 x.2.1
def traceryref04_In.env (k : Nat) : Env Unit := ⟨[], [], none⟩
theorem traceryref04_In.eq (k : Nat) : evFn T (traceryref04_In.env k) traceryref04_In.hints k traceryref04_In.sig Go.Proofs.Try.f16 = traceryref04_In.f k := by funext x; kernel_rfl
theorem traceryref04_In.sound (k : Nat) : Sound Go.Proofs.Try.prog 16 ⟨traceryref04_In.sig, traceryref04_In.f k⟩ := fun_sound T_ok (Φ := traceryref04_In.env k) ⟨TabS.nil, TabH.nil, CloS.none⟩ Go.Proofs.Try.func16 (by kernel_rfl) (traceryref04_In.eq k)

/-! tracery/traceryref04.Rises -/
@[reducible] def traceryref04_Rises.sig : Sig := ⟨[.v (.dat (.sl (.int .i64))), .v (.dat (.int .i64))], [.v (.dat .bool)]⟩
def traceryref04_Rises.hints : Hints := ⟨[], [], [(2, [(.tmp 5, .dat (.int .i64))])], []⟩
def traceryref04_Rises.l2 (p0 : (List Int)) (p1 : Int) (self : Int → Option (LO Int Unit Bool)) (v5 : Int) : Option (LO Int Unit Bool) :=
  bif decide (v5 < (p0.length : Int)) then
    (idx p0 v5).bind fun (y1 : Int) =>
    bif decide (y1 < 0) then
      some (.ret false)
    else
      (idx p0 v5).bind fun (y2 : Int) =>
      bif decide (y2 ≥ p1) then
        some (.ret false)
      else
        bif decide (v5 > 0) then
          (idx p0 v5).bind fun (y3 : Int) =>
          (idx p0 (IntKind.i64.wrap (v5 - 1))).bind fun (y4 : Int) =>
          bif decide (y3 ≤ y4) then
            some (.ret false)
          else
            self (IntKind.i64.wrap (v5 + 1))
        else
          self (IntKind.i64.wrap (v5 + 1))
  else
    some (.out v5)
def traceryref04_Rises.g (k : Nat) (p0 : (List Int)) (p1 : Int) : Option Bool :=
  (iter (fun self z5 => traceryref04_Rises.l2 p0 p1 self z5) k 0).bind fun o2 => o2.elim
    (fun z5 =>
      some true)
    (fun _ => none)
    (fun r6 => some r6)
def traceryref04_Rises.f (k : Nat) (x : Tup traceryref04_Rises.sig.ins) : Option (El (outTy traceryref04_Rises.sig.outs)) := traceryref04_Rises.g k x.1 x.2.1
def traceryref04_Rises.env (k : Nat) : Env Unit := ⟨[], [], none⟩
theorem traceryref04_Rises.eq (k : Nat) : evFn T (traceryref04_Rises.env k) traceryref04_Rises.hints k traceryref04_Rises.sig Go.Proofs.Try.f17 = traceryref04_Rises.f k := by funext x; kernel_rfl
theorem traceryref04_Rises.sound (k : Nat) : Sound Go.Proofs.Try.prog 17 ⟨traceryref04_Rises.sig, traceryref04_Rises.f k⟩ := fun_sound T_ok (Φ := traceryref04_Rises.env k) ⟨TabS.nil, TabH.nil, CloS.none⟩ Go.Proofs.Try.func17 (by kernel_rfl) (traceryref04_Rises.eq k)

/-! tracery/tracerylaw04.GraphTwins -/
@[reducible] def tracerylaw04_GraphTwins.sig : Sig := ⟨[.v (.dat (.st (.pair (.int .i64) (.sl (.st (.pair (.int .i64) (.int .i64))))))), .v (.dat (.int .i64))], [.v (.dat .bool)]⟩
def tracerylaw04_GraphTwins.hints : Hints := ⟨[(7, 4, 1)], [], [], []⟩
def tracerylaw04_GraphTwins.g (k : Nat) (p0 : (Int × (List (Int × Int)))) (p1 : Int) : Option Bool :=
  (tracerylaw04_awake.g k).bind fun (y1 : Bool) =>
  bif !y1 then
    (tracerylaw04_awake.g k).bind fun (y2 : Bool) =>
    some y2
  else
    (tracerylaw04_Small.g k p0 ([], [])).bind fun (y3 : Int) =>
    bif decide (y3 = 0) then
      (tracerylaw04_awake.g k).bind fun (y4 : Bool) =>
      some y4
    else
      (graph_Ends.g k p0 p1).bind fun (y5 : (Int × (Int × Bool))) =>
      bif !y5.2.2 then
        bif decide (y5.1 = 0) then
          bif decide (y5.2.1 = 0) then
            (graph_Right.g k p0).bind fun (y6 : Int) =>
            bif !(decide (y6 = 0)) then
              some true
            else
              bif decide (p1 < 0) then
                some true
              else
                some (decide (IntKind.i64.wrap (Int.tdiv p1 2) ≥ (p0.2.length : Int)))
          else
            some false
        else
          some false
      else
        (traceryref04_Twin.g k p1).bind fun (y7 : Int) =>
        (graph_Ends.g k p0 y7).bind fun (y8 : (Int × (Int × Bool))) =>
        (graph_Whole.g k p0).bind fun (y9 : ((List Int) × (List Int))) =>
        (graph_Darts.g k p0 y9 y5.1).bind fun (y10 : (List Int)) =>
        bif y8.2.2 then
          bif decide (y5.1 = y8.2.1) then
            bif decide (y5.2.1 = y8.1) then
              (traceryref04_In.g k y10 p1).bind fun (y11 : Bool) =>
              bif y11 then
                (traceryref04_Rises.g k y10 (IntKind.i64.wrap (2 * (p0.2.length : Int)))).bind fun (y12 : Bool) =>
                some y12
              else
                some false
            else
              some false
          else
            some false
        else
          some false
def tracerylaw04_GraphTwins.f (k : Nat) (x : Tup tracerylaw04_GraphTwins.sig.ins) : Option (El (outTy tracerylaw04_GraphTwins.sig.outs)) := tracerylaw04_GraphTwins.g k x.1 x.2.1
def tracerylaw04_GraphTwins.env (k : Nat) : Env Unit := ⟨[(9, ⟨tracerylaw04_awake.sig, tracerylaw04_awake.f k⟩), (10, ⟨tracerylaw04_Small.sig, tracerylaw04_Small.f k⟩), (11, ⟨graph_Ends.sig, graph_Ends.f k⟩), (12, ⟨graph_Right.sig, graph_Right.f k⟩), (13, ⟨traceryref04_Twin.sig, traceryref04_Twin.f k⟩), (14, ⟨graph_Darts.sig, graph_Darts.f k⟩), (15, ⟨graph_Whole.sig, graph_Whole.f k⟩), (16, ⟨traceryref04_In.sig, traceryref04_In.f k⟩), (17, ⟨traceryref04_Rises.sig, traceryref04_Rises.f k⟩)], [], none⟩
theorem tracerylaw04_GraphTwins.eq (k : Nat) : evFn T (tracerylaw04_GraphTwins.env k) tracerylaw04_GraphTwins.hints k tracerylaw04_GraphTwins.sig Go.Proofs.Try.f3 = tracerylaw04_GraphTwins.f k := by funext x; kernel_rfl
theorem tracerylaw04_GraphTwins.sound (k : Nat) : Sound Go.Proofs.Try.prog 3 ⟨tracerylaw04_GraphTwins.sig, tracerylaw04_GraphTwins.f k⟩ := fun_sound T_ok (Φ := tracerylaw04_GraphTwins.env k) ⟨(TabS.cons (tracerylaw04_awake.sound k) (TabS.cons (tracerylaw04_Small.sound k) (TabS.cons (graph_Ends.sound k) (TabS.cons (graph_Right.sound k) (TabS.cons (traceryref04_Twin.sound k) (TabS.cons (graph_Darts.sound k) (TabS.cons (graph_Whole.sound k) (TabS.cons (traceryref04_In.sound k) (TabS.cons (traceryref04_Rises.sound k) TabS.nil))))))))), TabH.nil, CloS.none⟩ Go.Proofs.Try.func3 (by kernel_rfl) (tracerylaw04_GraphTwins.eq k)

/-! tracery/traceryref04.Right -/
@[reducible] def traceryref04_Right.sig : Sig := ⟨[.v (.dat (.st (.pair (.int .i64) (.sl (.st (.pair (.int .i64) (.int .i64)))))))], [.v (.dat (.int .i64))]⟩
def traceryref04_Right.hints : Hints := ⟨[], [], [(6, [(.tmp 3, .dat (.int .i64))])], []⟩
def traceryref04_Right.l6 (p0 : (Int × (List (Int × Int)))) (self : Int → Option (LO Int Unit Int)) (v3 : Int) : Option (LO Int Unit Int) :=
  bif decide (v3 < (p0.2.length : Int)) then
    (idx p0.2 v3).bind fun (y1 : (Int × Int)) =>
    bif decide (y1.1 < 0) then
      some (.ret 3)
    else
      (idx p0.2 v3).bind fun (y2 : (Int × Int)) =>
      bif decide (y2.1 ≥ p0.1) then
        some (.ret 3)
      else
        (idx p0.2 v3).bind fun (y3 : (Int × Int)) =>
        bif decide (y3.2 < 0) then
          some (.ret 3)
        else
          (idx p0.2 v3).bind fun (y4 : (Int × Int)) =>
          bif decide (y4.2 ≥ p0.1) then
            some (.ret 3)
          else
            self (IntKind.i64.wrap (v3 + 1))
  else
    some (.out v3)
def traceryref04_Right.g (k : Nat) (p0 : (Int × (List (Int × Int)))) : Option Int :=
  bif decide (p0.1 < 0) then
    some 3
  else
    bif decide (p0.1 > 1024) then
      some 2
    else
      bif decide ((p0.2.length : Int) > 1024) then
        some 2
      else
        bif decide (IntKind.i64.wrap (p0.1 + (p0.2.length : Int)) > 1024) then
          some 2
        else
          (iter (fun self z5 => traceryref04_Right.l6 p0 self z5) k 0).bind fun o6 => o6.elim
            (fun z5 =>
              some 0)
            (fun _ => none)
            (fun r6 => some r6)
def traceryref04_Right.f (k : Nat) (x : Tup traceryref04_Right.sig.ins) : Option (El (outTy traceryref04_Right.sig.outs)) := traceryref04_Right.g k x.1
def traceryref04_Right.env (k : Nat) : Env Unit := ⟨[], [], none⟩
theorem traceryref04_Right.eq (k : Nat) : evFn T (traceryref04_Right.env k) traceryref04_Right.hints k traceryref04_Right.sig Go.Proofs.Try.f19 = traceryref04_Right.f k := by funext x; kernel_rfl
theorem traceryref04_Right.sound (k : Nat) : Sound Go.Proofs.Try.prog 19 ⟨traceryref04_Right.sig, traceryref04_Right.f k⟩ := fun_sound T_ok (Φ := traceryref04_Right.env k) ⟨TabS.nil, TabH.nil, CloS.none⟩ Go.Proofs.Try.func19 (by kernel_rfl) (traceryref04_Right.eq k)

/-! slices.Equal[[]int,int] -/
@[reducible] def slices_Equal.sig : Sig := ⟨[.v (.dat (.sl (.int .i64))), .v (.dat (.sl (.int .i64)))], [.v (.dat .bool)]⟩
def slices_Equal.hints : Hints := ⟨[], [], [(4, [(.tmp 13, .dat (.int .i64))])], []⟩
def slices_Equal.l4 (p0 : (List Int)) (p1 : (List Int)) (self : Int → Option (LO Int Unit Bool)) (v13 : Int) : Option (LO Int Unit Bool) :=
  bif decide (v13 < (p0.length : Int)) then
    (idx p0 v13).bind fun (y1 : Int) =>
    (idx p1 v13).bind fun (y2 : Int) =>
    bif !(decide (y1 = y2)) then
      some (.ret false)
    else
      self (IntKind.i64.wrap (v13 + 1))
  else
    some (.out v13)
def slices_Equal.g (k : Nat) (p0 : (List Int)) (p1 : (List Int)) : Option Bool :=
  bif !(decide ((p0.length : Int) = (p1.length : Int))) then
    some false
  else
    (iter (fun self z3 => slices_Equal.l4 p0 p1 self z3) k 0).bind fun o4 => o4.elim
      (fun z3 =>
        some true)
      (fun _ => none)
      (fun r4 => some r4)
def slices_Equal.f (k : Nat) (x : Tup slices_Equal.sig.ins) : Option (El (outTy slices_Equal.sig.outs)) := slices_Equal.g k x.1 x.2.1
def slices_Equal.env (k : Nat) : Env Unit := ⟨[], [], none⟩
theorem slices_Equal.eq (k : Nat) : evFn T (slices_Equal.env k) slices_Equal.hints k slices_Equal.sig Go.Proofs.Try.f43 = slices_Equal.f k := by funext x; kernel_rfl
theorem slices_Equal.sound (k : Nat) : Sound Go.Proofs.Try.prog 43 ⟨slices_Equal.sig, slices_Equal.f k⟩ := fun_sound T_ok (Φ := slices_Equal.env k) ⟨TabS.nil, TabH.nil, CloS.none⟩ Go.Proofs.Try.func43 (by kernel_rfl) (slices_Equal.eq k)

/-! tracery/graph.Same -/
@[reducible] def graph_Same.sig : Sig := ⟨[.v (.dat (.st (.pair (.sl (.int .i64)) (.sl (.int .i64))))), .v (.dat (.st (.pair (.sl (.int .i64)) (.sl (.int .i64)))))], [.v (.dat .bool)]⟩
def graph_Same.hints : Hints := ⟨[], [], [], []⟩
def graph_Same.g (k : Nat) (p0 : ((List Int) × (List Int))) (p1 : ((List Int) × (List Int))) : Option Bool :=
  (slices_Equal.g k p0.1 p1.1).bind fun (y1 : Bool) =>
  bif y1 then
    (slices_Equal.g k p0.2 p1.2).bind fun (y2 : Bool) =>
    some y2
  else
    some false
def graph_Same.f (k : Nat) (x : Tup graph_Same.sig.ins) : Option (El (outTy graph_Same.sig.outs)) := graph_Same.g k x.1 x.2.1
def graph_Same.env (k : Nat) : Env Unit := ⟨[(43, ⟨slices_Equal.sig, slices_Equal.f k⟩)], [], none⟩
theorem graph_Same.eq (k : Nat) : evFn T (graph_Same.env k) graph_Same.hints k graph_Same.sig Go.Proofs.Try.f20 = graph_Same.f k := by funext x; kernel_rfl
theorem graph_Same.sound (k : Nat) : Sound Go.Proofs.Try.prog 20 ⟨graph_Same.sig, graph_Same.f k⟩ := fun_sound T_ok (Φ := graph_Same.env k) ⟨(TabS.cons (slices_Equal.sound k) TabS.nil), TabH.nil, CloS.none⟩ Go.Proofs.Try.func20 (by kernel_rfl) (graph_Same.eq k)

/-! tracery/traceryref04.Equal -/
@[reducible] def traceryref04_Equal.sig : Sig := ⟨[.v (.dat (.sl (.int .i64))), .v (.dat (.sl (.int .i64)))], [.v (.dat .bool)]⟩
def traceryref04_Equal.hints : Hints := ⟨[], [], [(4, [(.tmp 5, .dat (.int .i64))])], []⟩
def traceryref04_Equal.l4 (p0 : (List Int)) (p1 : (List Int)) (self : Int → Option (LO Int Unit Bool)) (v5 : Int) : Option (LO Int Unit Bool) :=
  bif decide (v5 < (p0.length : Int)) then
    (idx p0 v5).bind fun (y1 : Int) =>
    (idx p1 v5).bind fun (y2 : Int) =>
    bif !(decide (y1 = y2)) then
      some (.ret false)
    else
      self (IntKind.i64.wrap (v5 + 1))
  else
    some (.out v5)
def traceryref04_Equal.g (k : Nat) (p0 : (List Int)) (p1 : (List Int)) : Option Bool :=
  bif !(decide ((p0.length : Int) = (p1.length : Int))) then
    some false
  else
    (iter (fun self z3 => traceryref04_Equal.l4 p0 p1 self z3) k 0).bind fun o4 => o4.elim
      (fun z3 =>
        some true)
      (fun _ => none)
      (fun r4 => some r4)
def traceryref04_Equal.f (k : Nat) (x : Tup traceryref04_Equal.sig.ins) : Option (El (outTy traceryref04_Equal.sig.outs)) := traceryref04_Equal.g k x.1 x.2.1
def traceryref04_Equal.env (k : Nat) : Env Unit := ⟨[], [], none⟩
theorem traceryref04_Equal.eq (k : Nat) : evFn T (traceryref04_Equal.env k) traceryref04_Equal.hints k traceryref04_Equal.sig Go.Proofs.Try.f28 = traceryref04_Equal.f k := by funext x; kernel_rfl
theorem traceryref04_Equal.sound (k : Nat) : Sound Go.Proofs.Try.prog 28 ⟨traceryref04_Equal.sig, traceryref04_Equal.f k⟩ := fun_sound T_ok (Φ := traceryref04_Equal.env k) ⟨TabS.nil, TabH.nil, CloS.none⟩ Go.Proofs.Try.func28 (by kernel_rfl) (traceryref04_Equal.eq k)

/-! tracery/traceryref04.Same -/
@[reducible] def traceryref04_Same.sig : Sig := ⟨[.v (.dat (.st (.pair (.sl (.int .i64)) (.sl (.int .i64))))), .v (.dat (.st (.pair (.sl (.int .i64)) (.sl (.int .i64)))))], [.v (.dat .bool)]⟩
def traceryref04_Same.hints : Hints := ⟨[], [], [], []⟩
def traceryref04_Same.g (k : Nat) (p0 : ((List Int) × (List Int))) (p1 : ((List Int) × (List Int))) : Option Bool :=
  (traceryref04_Equal.g k p0.1 p1.1).bind fun (y1 : Bool) =>
  bif y1 then
    (traceryref04_Equal.g k p0.2 p1.2).bind fun (y2 : Bool) =>
    some y2
  else
    some false
def traceryref04_Same.f (k : Nat) (x : Tup traceryref04_Same.sig.ins) : Option (El (outTy traceryref04_Same.sig.outs)) := traceryref04_Same.g k x.1 x.2.1
def traceryref04_Same.env (k : Nat) : Env Unit := ⟨[(28, ⟨traceryref04_Equal.sig, traceryref04_Equal.f k⟩)], [], none⟩
theorem traceryref04_Same.eq (k : Nat) : evFn T (traceryref04_Same.env k) traceryref04_Same.hints k traceryref04_Same.sig Go.Proofs.Try.f21 = traceryref04_Same.f k := by funext x; kernel_rfl
theorem traceryref04_Same.sound (k : Nat) : Sound Go.Proofs.Try.prog 21 ⟨traceryref04_Same.sig, traceryref04_Same.f k⟩ := fun_sound T_ok (Φ := traceryref04_Same.env k) ⟨(TabS.cons (traceryref04_Equal.sound k) TabS.nil), TabH.nil, CloS.none⟩ Go.Proofs.Try.func21 (by kernel_rfl) (traceryref04_Same.eq k)

/-! tracery/traceryref04.Span -/
@[reducible] def traceryref04_Span.sig : Sig := ⟨[.v (.dat (.st (.pair (.int .i64) (.sl (.st (.pair (.int .i64) (.int .i64))))))), .v (.dat (.sl (.int .i64)))], [.v (.dat (.st (.pair (.sl (.int .i64)) (.sl (.int .i64)))))]⟩
def traceryref04_Span.hints : Hints := ⟨[(2, 3, 1), (10, 3, 1), (10, 4, 1)], [], [(4, [(.tmp 6, .dat (.int .i64)), (.bx 5 0, .arr (.int .i64))]), (7, [(.tmp 7, .dat (.int .i64)), (.bx 5 0, .arr (.int .i64))])], []⟩
def traceryref04_Span.l7 (p0 : (Int × (List (Int × Int)))) (p1 : (List Int)) (v6 : Int) (self : (Int × (List Int)) → Option (LO (Int × (List Int)) Unit ((List Int) × (List Int)))) (v7 : Int) (b2_0_0_0' : (List Int)) : Option (LO (Int × (List Int)) Unit ((List Int) × (List Int))) :=
  bif decide (v7 < (p1.length : Int)) then
    (idx p1 v7).bind fun (y1 : Int) =>
    (idx p0.2 y1).bind fun (y2 : (Int × Int)) =>
    bif decide (y2.1 = v6) then
      bif limB (b2_0_0_0'.length + ([v6]).length) then
        some (.out (v7, b2_0_0_0' ++ ([v6])))
      else
        none
    else
      (idx p1 v7).bind fun (y3 : Int) =>
      (idx p0.2 y3).bind fun (y4 : (Int × Int)) =>
      bif decide (y4.2 = v6) then
        bif limB (b2_0_0_0'.length + ([v6]).length) then
          some (.out (v7, b2_0_0_0' ++ ([v6])))
        else
          none
      else
        self (IntKind.i64.wrap (v7 + 1), b2_0_0_0')
  else
    some (.out (v7, b2_0_0_0'))
def traceryref04_Span.l4 (k : Nat) (p0 : (Int × (List (Int × Int)))) (p1 : (List Int)) (self : (Int × (List Int)) → Option (LO (Int × (List Int)) Unit ((List Int) × (List Int)))) (v6 : Int) (b2_0_0_0 : (List Int)) : Option (LO (Int × (List Int)) Unit ((List Int) × (List Int))) :=
  bif decide (v6 < p0.1) then
    (iter (fun self z5 => traceryref04_Span.l7 p0 p1 v6 self z5.1 z5.2) k (0, b2_0_0_0)).bind fun o7 => o7.elim
      (fun z5 =>
        self (IntKind.i64.wrap (v6 + 1), z5.2))
      (fun _ => none)
      (fun r6 => some (.ret r6))
  else
    some (.out (v6, b2_0_0_0))
def traceryref04_Span.g (k : Nat) (p0 : (Int × (List (Int × Int)))) (p1 : (List Int)) : Option ((List Int) × (List Int)) :=
  bif limB p1.length then
    (iter (fun self z7 => traceryref04_Span.l4 k p0 p1 self z7.1 z7.2) k (0, [])).bind fun o4 => o4.elim
      (fun z7 =>
        some (z7.2, p1))
      (fun _ => none)
      (fun r8 => some r8)
  else
    none
def traceryref04_Span.f (k : Nat) (x : Tup traceryref04_Span.sig.ins) : Option (El (outTy traceryref04_Span.sig.outs)) := traceryref04_Span.g k x.1 x.2.1
def traceryref04_Span.env (k : Nat) : Env Unit := ⟨[], [], none⟩
theorem traceryref04_Span.eq (k : Nat) : evFn T (traceryref04_Span.env k) traceryref04_Span.hints k traceryref04_Span.sig Go.Proofs.Try.f22 = traceryref04_Span.f k := by funext x; kernel_rfl
theorem traceryref04_Span.sound (k : Nat) : Sound Go.Proofs.Try.prog 22 ⟨traceryref04_Span.sig, traceryref04_Span.f k⟩ := fun_sound T_ok (Φ := traceryref04_Span.env k) ⟨TabS.nil, TabH.nil, CloS.none⟩ Go.Proofs.Try.func22 (by kernel_rfl) (traceryref04_Span.eq k)

/-! tracery/tracerylaw04.GraphSpans -/
@[reducible] def tracerylaw04_GraphSpans.sig : Sig := ⟨[.v (.dat (.st (.pair (.int .i64) (.sl (.st (.pair (.int .i64) (.int .i64))))))), .v (.dat (.sl (.int .i64)))], [.v (.dat .bool)]⟩
def tracerylaw04_GraphSpans.hints : Hints := ⟨[], [], [], []⟩
def tracerylaw04_GraphSpans.g (k : Nat) (p0 : (Int × (List (Int × Int)))) (p1 : (List Int)) : Option Bool :=
  (tracerylaw04_awake.g k).bind fun (y1 : Bool) =>
  bif !y1 then
    (tracerylaw04_awake.g k).bind fun (y2 : Bool) =>
    some y2
  else
    (tracerylaw04_Small.g k p0 ([], p1)).bind fun (y3 : Int) =>
    bif decide (y3 = 0) then
      (tracerylaw04_awake.g k).bind fun (y4 : Bool) =>
      some y4
    else
      (graph_Span.g k p0 p1).bind fun (y5 : (((List Int) × (List Int)) × Int)) =>
      (traceryref04_Right.g k p0).bind fun (y6 : Int) =>
      bif !(decide (y6 = 0)) then
        (traceryref04_Right.g k p0).bind fun (y7 : Int) =>
        bif decide (y5.2 = y7) then
          (graph_Same.g k y5.1 ([], [])).bind fun (y8 : Bool) =>
          some y8
        else
          some false
      else
        (traceryref04_Rises.g k p1 (p0.2.length : Int)).bind fun (y9 : Bool) =>
        bif !y9 then
          bif decide (y5.2 = 4) then
            (graph_Same.g k y5.1 ([], [])).bind fun (y10 : Bool) =>
            some y10
          else
            some false
        else
          bif decide (y5.2 = 0) then
            (traceryref04_Span.g k p0 p1).bind fun (y11 : ((List Int) × (List Int))) =>
            (traceryref04_Same.g k y5.1 y11).bind fun (y12 : Bool) =>
            some y12
          else
            some false
def tracerylaw04_GraphSpans.f (k : Nat) (x : Tup tracerylaw04_GraphSpans.sig.ins) : Option (El (outTy tracerylaw04_GraphSpans.sig.outs)) := tracerylaw04_GraphSpans.g k x.1 x.2.1
def tracerylaw04_GraphSpans.env (k : Nat) : Env Unit := ⟨[(9, ⟨tracerylaw04_awake.sig, tracerylaw04_awake.f k⟩), (10, ⟨tracerylaw04_Small.sig, tracerylaw04_Small.f k⟩), (17, ⟨traceryref04_Rises.sig, traceryref04_Rises.f k⟩), (18, ⟨graph_Span.sig, graph_Span.f k⟩), (19, ⟨traceryref04_Right.sig, traceryref04_Right.f k⟩), (20, ⟨graph_Same.sig, graph_Same.f k⟩), (21, ⟨traceryref04_Same.sig, traceryref04_Same.f k⟩), (22, ⟨traceryref04_Span.sig, traceryref04_Span.f k⟩)], [], none⟩
theorem tracerylaw04_GraphSpans.eq (k : Nat) : evFn T (tracerylaw04_GraphSpans.env k) tracerylaw04_GraphSpans.hints k tracerylaw04_GraphSpans.sig Go.Proofs.Try.f4 = tracerylaw04_GraphSpans.f k := by funext x; kernel_rfl
theorem tracerylaw04_GraphSpans.sound (k : Nat) : Sound Go.Proofs.Try.prog 4 ⟨tracerylaw04_GraphSpans.sig, tracerylaw04_GraphSpans.f k⟩ := fun_sound T_ok (Φ := tracerylaw04_GraphSpans.env k) ⟨(TabS.cons (tracerylaw04_awake.sound k) (TabS.cons (tracerylaw04_Small.sound k) (TabS.cons (traceryref04_Rises.sound k) (TabS.cons (graph_Span.sound k) (TabS.cons (traceryref04_Right.sound k) (TabS.cons (graph_Same.sound k) (TabS.cons (traceryref04_Same.sound k) (TabS.cons (traceryref04_Span.sound k) TabS.nil)))))))), TabH.nil, CloS.none⟩ Go.Proofs.Try.func4 (by kernel_rfl) (tracerylaw04_GraphSpans.eq k)

/-! tracery/traceryref04.RightPart -/
@[reducible] def traceryref04_RightPart.sig : Sig := ⟨[.v (.dat (.st (.pair (.int .i64) (.sl (.st (.pair (.int .i64) (.int .i64))))))), .v (.dat (.st (.pair (.sl (.int .i64)) (.sl (.int .i64)))))], [.v (.dat (.int .i64))]⟩
def traceryref04_RightPart.hints : Hints := ⟨[], [], [(7, [(.tmp 6, .dat (.int .i64))])], []⟩
def traceryref04_RightPart.l7 (k : Nat) (p0 : (Int × (List (Int × Int)))) (p1 : ((List Int) × (List Int))) (self : Int → Option (LO Int Unit Int)) (v6 : Int) : Option (LO Int Unit Int) :=
  bif decide (v6 < (p1.2.length : Int)) then
    (idx p1.2 v6).bind fun (y4 : Int) =>
    (idx p0.2 y4).bind fun (y5 : (Int × Int)) =>
    (traceryref04_In.g k p1.1 y5.1).bind fun (y6 : Bool) =>
    bif !y6 then
      some (.ret 4)
    else
      (idx p1.2 v6).bind fun (y7 : Int) =>
      (idx p0.2 y7).bind fun (y8 : (Int × Int)) =>
      (traceryref04_In.g k p1.1 y8.2).bind fun (y9 : Bool) =>
      bif !y9 then
        some (.ret 4)
      else
        self (IntKind.i64.wrap (v6 + 1))
  else
    some (.out v6)
def traceryref04_RightPart.g (k : Nat) (p0 : (Int × (List (Int × Int)))) (p1 : ((List Int) × (List Int))) : Option Int :=
  (traceryref04_Right.g k p0).bind fun (y1 : Int) =>
  bif !(decide (y1 = 0)) then
    some y1
  else
    (traceryref04_Rises.g k p1.1 p0.1).bind fun (y2 : Bool) =>
    bif !y2 then
      some 4
    else
      (traceryref04_Rises.g k p1.2 (p0.2.length : Int)).bind fun (y3 : Bool) =>
      bif !y3 then
        some 4
      else
        (iter (fun self z10 => traceryref04_RightPart.l7 k p0 p1 self z10) k 0).bind fun o7 => o7.elim
          (fun z10 =>
            some 0)
          (fun _ => none)
          (fun r11 => some r11)
def traceryref04_RightPart.f (k : Nat) (x : Tup traceryref04_RightPart.sig.ins) : Option (El (outTy traceryref04_RightPart.sig.outs)) := traceryref04_RightPart.g k x.1 x.2.1
def traceryref04_RightPart.env (k : Nat) : Env Unit := ⟨[(16, ⟨traceryref04_In.sig, traceryref04_In.f k⟩), (17, ⟨traceryref04_Rises.sig, traceryref04_Rises.f k⟩), (19, ⟨traceryref04_Right.sig, traceryref04_Right.f k⟩)], [], none⟩
theorem traceryref04_RightPart.eq (k : Nat) : evFn T (traceryref04_RightPart.env k) traceryref04_RightPart.hints k traceryref04_RightPart.sig Go.Proofs.Try.f24 = traceryref04_RightPart.f k := by funext x; kernel_rfl
theorem traceryref04_RightPart.sound (k : Nat) : Sound Go.Proofs.Try.prog 24 ⟨traceryref04_RightPart.sig, traceryref04_RightPart.f k⟩ := fun_sound T_ok (Φ := traceryref04_RightPart.env k) ⟨(TabS.cons (traceryref04_In.sound k) (TabS.cons (traceryref04_Rises.sound k) (TabS.cons (traceryref04_Right.sound k) TabS.nil))), TabH.nil, CloS.none⟩ Go.Proofs.Try.func24 (by kernel_rfl) (traceryref04_RightPart.eq k)

/-! tracery/traceryref04.Whole -/
@[reducible] def traceryref04_Whole.sig : Sig := ⟨[.v (.dat (.st (.pair (.int .i64) (.sl (.st (.pair (.int .i64) (.int .i64)))))))], [.v (.dat (.st (.pair (.sl (.int .i64)) (.sl (.int .i64)))))]⟩
def traceryref04_Whole.hints : Hints := ⟨[(5, 3, 1), (5, 4, 1), (9, 3, 1), (9, 4, 1)], [], [(3, [(.tmp 4, .dat (.int .i64)), (.bx 3 0, .arr (.int .i64))]), (7, [(.tmp 5, .dat (.int .i64)), (.bx 3 1, .arr (.int .i64))])], []⟩
def traceryref04_Whole.l3 (p0 : (Int × (List (Int × Int)))) (self : (Int × (List Int)) → Option (LO (Int × (List Int)) Unit ((List Int) × (List Int)))) (v4 : Int) (b2_0_0_0 : (List Int)) : Option (LO (Int × (List Int)) Unit ((List Int) × (List Int))) :=
  bif decide (v4 < p0.1) then
    bif limB (b2_0_0_0.length + ([v4]).length) then
      self (IntKind.i64.wrap (v4 + 1), b2_0_0_0 ++ ([v4]))
    else
      none
  else
    some (.out (v4, b2_0_0_0))
def traceryref04_Whole.l7 (p0 : (Int × (List (Int × Int)))) (self : (Int × (List Int)) → Option (LO (Int × (List Int)) Unit ((List Int) × (List Int)))) (v5 : Int) (b2_0_0_1 : (List Int)) : Option (LO (Int × (List Int)) Unit ((List Int) × (List Int))) :=
  bif decide (v5 < (p0.2.length : Int)) then
    bif limB (b2_0_0_1.length + ([v5]).length) then
      self (IntKind.i64.wrap (v5 + 1), b2_0_0_1 ++ ([v5]))
    else
      none
  else
    some (.out (v5, b2_0_0_1))
def traceryref04_Whole.g (k : Nat) (p0 : (Int × (List (Int × Int)))) : Option ((List Int) × (List Int)) :=
  (iter (fun self z1 => traceryref04_Whole.l3 p0 self z1.1 z1.2) k (0, [])).bind fun o3 => o3.elim
    (fun z1 =>
      (iter (fun self z2 => traceryref04_Whole.l7 p0 self z2.1 z2.2) k (0, [])).bind fun o7 => o7.elim
        (fun z2 =>
          some (z1.2, z2.2))
        (fun _ => none)
        (fun r3 => some r3))
    (fun _ => none)
    (fun r4 => some r4)
def traceryref04_Whole.f (k : Nat) (x : Tup traceryref04_Whole.sig.ins) : Option (El (outTy traceryref04_Whole.sig.outs)) := traceryref04_Whole.g k x.1
def traceryref04_Whole.env (k : Nat) : Env Unit := ⟨[], [], none⟩
theorem traceryref04_Whole.eq (k : Nat) : evFn T (traceryref04_Whole.env k) traceryref04_Whole.hints k traceryref04_Whole.sig Go.Proofs.Try.f25 = traceryref04_Whole.f k := by funext x; kernel_rfl
theorem traceryref04_Whole.sound (k : Nat) : Sound Go.Proofs.Try.prog 25 ⟨traceryref04_Whole.sig, traceryref04_Whole.f k⟩ := fun_sound T_ok (Φ := traceryref04_Whole.env k) ⟨TabS.nil, TabH.nil, CloS.none⟩ Go.Proofs.Try.func25 (by kernel_rfl) (traceryref04_Whole.eq k)

/-! tracery/traceryref04.Tail -/
@[reducible] def traceryref04_Tail.sig : Sig := ⟨[.v (.dat (.st (.pair (.int .i64) (.sl (.st (.pair (.int .i64) (.int .i64))))))), .v (.dat (.int .i64))], [.v (.dat (.int .i64))]⟩
def traceryref04_Tail.hints : Hints := ⟨[], [], [], []⟩
def traceryref04_Tail.g (k : Nat) (p0 : (Int × (List (Int × Int)))) (p1 : Int) : Option Int :=
  bif decide (Int.tmod p1 2 = 0) then
    (idx p0.2 (IntKind.i64.wrap (Int.tdiv p1 2))).bind fun (y1 : (Int × Int)) =>
    some y1.1
  else
    (idx p0.2 (IntKind.i64.wrap (Int.tdiv p1 2))).bind fun (y2 : (Int × Int)) =>
    some y2.2
def traceryref04_Tail.f (k : Nat) (x : Tup traceryref04_Tail.sig.ins) : Option (El (outTy traceryref04_Tail.sig.outs)) := traceryref04_Tail.g k x.1 x.2.1
def traceryref04_Tail.env (k : Nat) : Env Unit := ⟨[], [], none⟩
theorem traceryref04_Tail.eq (k : Nat) : evFn T (traceryref04_Tail.env k) traceryref04_Tail.hints k traceryref04_Tail.sig Go.Proofs.Try.f26 = traceryref04_Tail.f k := by funext x; kernel_rfl
theorem traceryref04_Tail.sound (k : Nat) : Sound Go.Proofs.Try.prog 26 ⟨traceryref04_Tail.sig, traceryref04_Tail.f k⟩ := fun_sound T_ok (Φ := traceryref04_Tail.env k) ⟨TabS.nil, TabH.nil, CloS.none⟩ Go.Proofs.Try.func26 (by kernel_rfl) (traceryref04_Tail.eq k)

/-! tracery/traceryref04.Head -/
@[reducible] def traceryref04_Head.sig : Sig := ⟨[.v (.dat (.st (.pair (.int .i64) (.sl (.st (.pair (.int .i64) (.int .i64))))))), .v (.dat (.int .i64))], [.v (.dat (.int .i64))]⟩
def traceryref04_Head.hints : Hints := ⟨[], [], [], []⟩
def traceryref04_Head.g (k : Nat) (p0 : (Int × (List (Int × Int)))) (p1 : Int) : Option Int :=
  (traceryref04_Twin.g k p1).bind fun (y1 : Int) =>
  (traceryref04_Tail.g k p0 y1).bind fun (y2 : Int) =>
  some y2
def traceryref04_Head.f (k : Nat) (x : Tup traceryref04_Head.sig.ins) : Option (El (outTy traceryref04_Head.sig.outs)) := traceryref04_Head.g k x.1 x.2.1
def traceryref04_Head.env (k : Nat) : Env Unit := ⟨[(13, ⟨traceryref04_Twin.sig, traceryref04_Twin.f k⟩), (26, ⟨traceryref04_Tail.sig, traceryref04_Tail.f k⟩)], [], none⟩
theorem traceryref04_Head.eq (k : Nat) : evFn T (traceryref04_Head.env k) traceryref04_Head.hints k traceryref04_Head.sig Go.Proofs.Try.f27 = traceryref04_Head.f k := by funext x; kernel_rfl
theorem traceryref04_Head.sound (k : Nat) : Sound Go.Proofs.Try.prog 27 ⟨traceryref04_Head.sig, traceryref04_Head.f k⟩ := fun_sound T_ok (Φ := traceryref04_Head.env k) ⟨(TabS.cons (traceryref04_Twin.sound k) (TabS.cons (traceryref04_Tail.sound k) TabS.nil)), TabH.nil, CloS.none⟩ Go.Proofs.Try.func27 (by kernel_rfl) (traceryref04_Head.eq k)

/-! tracery/traceryref04.Darts -/
@[reducible] def traceryref04_Darts.sig : Sig := ⟨[.v (.dat (.st (.pair (.int .i64) (.sl (.st (.pair (.int .i64) (.int .i64))))))), .v (.dat (.st (.pair (.sl (.int .i64)) (.sl (.int .i64))))), .v (.dat (.int .i64))], [.v (.arr (.int .i64))]⟩
def traceryref04_Darts.hints : Hints := ⟨[(9, 9, 1), (9, 10, 1)], [], [(3, [(.tmp 8, .dat (.int .i64)), (.tmp 7, .arr (.int .i64))]), (6, [(.tmp 9, .dat (.int .i64)), (.tmp 7, .arr (.int .i64))])], []⟩
def traceryref04_Darts.l6 (k : Nat) (p0 : (Int × (List (Int × Int)))) (p1 : ((List Int) × (List Int))) (p2 : Int) (v8 : Int) (self : (Int × (List Int)) → Option (LO (Int × (List Int)) Unit (List Int))) (v9 : Int) (v7' : (List Int)) : Option (LO (Int × (List Int)) Unit (List Int)) :=
  bif decide (v9 < 2) then
    (idx p1.2 v8).bind fun (y1 : Int) =>
    (traceryref04_Tail.g k p0 (IntKind.i64.wrap ((IntKind.i64.wrap (2 * y1)) + v9))).bind fun (y2 : Int) =>
    bif decide (y2 = p2) then
      (idx p1.2 v8).bind fun (y3 : Int) =>
      bif limB (v7'.length + ([IntKind.i64.wrap ((IntKind.i64.wrap (2 * y3)) + v9)]).length) then
        self ((IntKind.i64.wrap (v9 + 1), v7' ++ ([IntKind.i64.wrap ((IntKind.i64.wrap (2 * y3)) + v9)])))
      else
        none
    else
      self (IntKind.i64.wrap (v9 + 1), v7')
  else
    some (.out (v9, v7'))
def traceryref04_Darts.l3 (k : Nat) (p0 : (Int × (List (Int × Int)))) (p1 : ((List Int) × (List Int))) (p2 : Int) (self : (Int × (List Int)) → Option (LO (Int × (List Int)) Unit (List Int))) (v8 : Int) (v7 : (List Int)) : Option (LO (Int × (List Int)) Unit (List Int)) :=
  bif decide (v8 < (p1.2.length : Int)) then
    (iter (fun self z4 => traceryref04_Darts.l6 k p0 p1 p2 v8 self z4.1 z4.2) k (0, v7)).bind fun o6 => o6.elim
      (fun z4 =>
        self (IntKind.i64.wrap (v8 + 1), z4.2))
      (fun _ => none)
      (fun r5 => some (.ret r5))
  else
    some (.out (v8, v7))
def traceryref04_Darts.g (k : Nat) (p0 : (Int × (List (Int × Int)))) (p1 : ((List Int) × (List Int))) (p2 : Int) : Option (List Int) :=
  (iter (fun self z6 => traceryref04_Darts.l3 k p0 p1 p2 self z6.1 z6.2) k (0, [])).bind fun o3 => o3.elim
    (fun z6 =>
      some z6.2)
    (fun _ => none)
    (fun r7 => some r7)
def traceryref04_Darts.f (k : Nat) (x : Tup traceryref04_Darts.sig.ins) : Option (El (outTy traceryref04_Darts.sig.outs)) := traceryref04_Darts.g k x.1 x.2.1 x.2.2.1
def traceryref04_Darts.env (k : Nat) : Env Unit := ⟨[(26, ⟨traceryref04_Tail.sig, traceryref04_Tail.f k⟩)], [], none⟩
theorem traceryref04_Darts.eq (k : Nat) : evFn T (traceryref04_Darts.env k) traceryref04_Darts.hints k traceryref04_Darts.sig Go.Proofs.Try.f29 = traceryref04_Darts.f k := by funext x; kernel_rfl
theorem traceryref04_Darts.sound (k : Nat) : Sound Go.Proofs.Try.prog 29 ⟨traceryref04_Darts.sig, traceryref04_Darts.f k⟩ := fun_sound T_ok (Φ := traceryref04_Darts.env k) ⟨(TabS.cons (traceryref04_Tail.sound k) TabS.nil), TabH.nil, CloS.none⟩ Go.Proofs.Try.func29 (by kernel_rfl) (traceryref04_Darts.eq k)

/-! tracery/tracerylaw04.GraphRights -/
@[reducible] def tracerylaw04_GraphRights.sig : Sig := ⟨[.v (.dat (.st (.pair (.int .i64) (.sl (.st (.pair (.int .i64) (.int .i64))))))), .v (.dat (.st (.pair (.sl (.int .i64)) (.sl (.int .i64))))), .v (.dat (.int .i64)), .v (.dat (.int .i64))], [.v (.dat .bool)]⟩
def tracerylaw04_GraphRights.hints : Hints := ⟨[(5, 3, 1), (15, 4, 1)], [], [], [(11, ⟨[], none⟩), (13, ⟨[], none⟩)]⟩
def tracerylaw04_GraphRights.j11 (k : Nat) (p0 : (Int × (List (Int × Int)))) : Option (LO Unit Unit Bool) :=
  bif decide (p0.1 ≤ 60) then
    (graph_Whole.g k p0).bind fun (y14 : ((List Int) × (List Int))) =>
    (traceryref04_Whole.g k p0).bind fun (y15 : ((List Int) × (List Int))) =>
    (traceryref04_Same.g k y14 y15).bind fun (y16 : Bool) =>
    bif !y16 then
      some (.ret false)
    else
      some (.out ())
  else
    some (.out ())
def tracerylaw04_GraphRights.j13 (k : Nat) (p0 : (Int × (List (Int × Int)))) (p3 : Int) (y10 : (Int × (Int × Bool))) : Option (LO Unit Unit Bool) :=
  bif decide (p3 ≥ 0) then
    bif !(y10.2.2 == decide (IntKind.i64.wrap (Int.tdiv p3 2) < (p0.2.length : Int))) then
      some (.ret false)
    else
      bif y10.2.2 then
        (traceryref04_Tail.g k p0 p3).bind fun (y18 : Int) =>
        bif !(decide (y10.1 = y18)) then
          some (.ret false)
        else
          (traceryref04_Head.g k p0 p3).bind fun (y19 : Int) =>
          bif !(decide (y10.2.1 = y19)) then
            some (.ret false)
          else
            some (.out ())
      else
        some (.out ())
  else
    bif !(y10.2.2 == false) then
      some (.ret false)
    else
      bif y10.2.2 then
        (traceryref04_Tail.g k p0 p3).bind fun (y20 : Int) =>
        bif !(decide (y10.1 = y20)) then
          some (.ret false)
        else
          (traceryref04_Head.g k p0 p3).bind fun (y21 : Int) =>
          bif !(decide (y10.2.1 = y21)) then
            some (.ret false)
          else
            some (.out ())
      else
        some (.out ())
def tracerylaw04_GraphRights.g (k : Nat) (p0 : (Int × (List (Int × Int)))) (p1 : ((List Int) × (List Int))) (p2 : Int) (p3 : Int) : Option Bool :=
  (tracerylaw04_awake.g k).bind fun (y1 : Bool) =>
  bif !y1 then
    (tracerylaw04_awake.g k).bind fun (y2 : Bool) =>
    some y2
  else
    (tracerylaw04_Small.g k p0 p1).bind fun (y3 : Int) =>
    bif decide (y3 = 0) then
      (tracerylaw04_awake.g k).bind fun (y4 : Bool) =>
      some y4
    else
      (graph_Right.g k p0).bind fun (y5 : Int) =>
      (traceryref04_Right.g k p0).bind fun (y6 : Int) =>
      bif !(decide (y5 = y6)) then
        some false
      else
        (graph_RightPart.g k p0 p1).bind fun (y7 : Int) =>
        (traceryref04_RightPart.g k p0 p1).bind fun (y8 : Int) =>
        bif !(decide (y7 = y8)) then
          some false
        else
          (graph_Darts.g k p0 p1 p2).bind fun (y9 : (List Int)) =>
          (graph_Ends.g k p0 p3).bind fun (y10 : (Int × (Int × Bool))) =>
          (traceryref04_Right.g k p0).bind fun (y11 : Int) =>
          bif !(decide (y11 = 0)) then
            bif decide ((y9.length : Int) = 0) then
              bif !y10.2.2 then
                (graph_Whole.g k p0).bind fun (y12 : ((List Int) × (List Int))) =>
                (graph_Same.g k y12 ([], [])).bind fun (y13 : Bool) =>
                some y13
              else
                some false
            else
              some false
          else
            (tracerylaw04_GraphRights.j11 k p0).bind fun o11 => o11.elim
              (fun z17 =>
                (tracerylaw04_GraphRights.j13 k p0 p3 y10).bind fun o13 => o13.elim
                  (fun z22 =>
                    (traceryref04_RightPart.g k p0 p1).bind fun (y23 : Int) =>
                    bif !(decide (y23 = 0)) then
                      some (decide ((y9.length : Int) = 0))
                    else
                      (traceryref04_Darts.g k p0 p1 p2).bind fun (y24 : (List Int)) =>
                      (traceryref04_Equal.g k y9 y24).bind fun (y25 : Bool) =>
                      some y25)
                  (fun _ => none)
                  (fun r26 => some r26))
              (fun _ => none)
              (fun r27 => some r27)
def tracerylaw04_GraphRights.f (k : Nat) (x : Tup tracerylaw04_GraphRights.sig.ins) : Option (El (outTy tracerylaw04_GraphRights.sig.outs)) := tracerylaw04_GraphRights.g k x.1 x.2.1 x.2.2.1 x.2.2.2.1
def tracerylaw04_GraphRights.env (k : Nat) : Env Unit := ⟨[(9, ⟨tracerylaw04_awake.sig, tracerylaw04_awake.f k⟩), (10, ⟨tracerylaw04_Small.sig, tracerylaw04_Small.f k⟩), (11, ⟨graph_Ends.sig, graph_Ends.f k⟩), (12, ⟨graph_Right.sig, graph_Right.f k⟩), (14, ⟨graph_Darts.sig, graph_Darts.f k⟩), (15, ⟨graph_Whole.sig, graph_Whole.f k⟩), (19, ⟨traceryref04_Right.sig, traceryref04_Right.f k⟩), (20, ⟨graph_Same.sig, graph_Same.f k⟩), (21, ⟨traceryref04_Same.sig, traceryref04_Same.f k⟩), (23, ⟨graph_RightPart.sig, graph_RightPart.f k⟩), (24, ⟨traceryref04_RightPart.sig, traceryref04_RightPart.f k⟩), (25, ⟨traceryref04_Whole.sig, traceryref04_Whole.f k⟩), (26, ⟨traceryref04_Tail.sig, traceryref04_Tail.f k⟩), (27, ⟨traceryref04_Head.sig, traceryref04_Head.f k⟩), (28, ⟨traceryref04_Equal.sig, traceryref04_Equal.f k⟩), (29, ⟨traceryref04_Darts.sig, traceryref04_Darts.f k⟩)], [], none⟩
theorem tracerylaw04_GraphRights.eq (k : Nat) : evFn T (tracerylaw04_GraphRights.env k) tracerylaw04_GraphRights.hints k tracerylaw04_GraphRights.sig Go.Proofs.Try.f5 = tracerylaw04_GraphRights.f k := by funext x; kernel_rfl
theorem tracerylaw04_GraphRights.sound (k : Nat) : Sound Go.Proofs.Try.prog 5 ⟨tracerylaw04_GraphRights.sig, tracerylaw04_GraphRights.f k⟩ := fun_sound T_ok (Φ := tracerylaw04_GraphRights.env k) ⟨(TabS.cons (tracerylaw04_awake.sound k) (TabS.cons (tracerylaw04_Small.sound k) (TabS.cons (graph_Ends.sound k) (TabS.cons (graph_Right.sound k) (TabS.cons (graph_Darts.sound k) (TabS.cons (graph_Whole.sound k) (TabS.cons (traceryref04_Right.sound k) (TabS.cons (graph_Same.sound k) (TabS.cons (traceryref04_Same.sound k) (TabS.cons (graph_RightPart.sound k) (TabS.cons (traceryref04_RightPart.sound k) (TabS.cons (traceryref04_Whole.sound k) (TabS.cons (traceryref04_Tail.sound k) (TabS.cons (traceryref04_Head.sound k) (TabS.cons (traceryref04_Equal.sound k) (TabS.cons (traceryref04_Darts.sound k) TabS.nil)))))))))))))))), TabH.nil, CloS.none⟩ Go.Proofs.Try.func5 (by kernel_rfl) (tracerylaw04_GraphRights.eq k)

/-! tracery/graph.merged[int] -/
@[reducible] def graph_merged.sig : Sig := ⟨[.v (.dat (.sl (.int .i64))), .v (.dat (.sl (.int .i64))), .v (.dat (.int .i64))], [.v (.arr (.int .i64))]⟩
def graph_merged.hints : Hints := ⟨[(4, 5, 1), (4, 6, 1), (8, 5, 1), (8, 6, 1), (12, 5, 1), (12, 6, 1)], [], [(3, [(.tmp 8, .dat (.int .i64)), (.tmp 9, .dat (.int .i64)), (.tmp 7, .arr (.int .i64))])], [(6, ⟨[], some (0, [])⟩), (7, ⟨[(.tmp 31, .dat .bool)], none⟩), (11, ⟨[(.tmp 64, .dat .bool)], none⟩)]⟩
def graph_merged.j6 (p0 : (List Int)) (p1 : (List Int)) (v8 : Int) (v9 : Int) : Option (LO Unit Unit (List Int)) :=
  bif decide (v8 < (p0.length : Int)) then
    some (.out ())
  else
    bif decide (v9 < (p1.length : Int)) then
      some (.out ())
    else
      some (.ex ())
def graph_merged.j7 (p0 : (List Int)) (p1 : (List Int)) (v8 : Int) (v9 : Int) : Option (LO Bool Unit (List Int)) :=
  bif decide (v9 = (p1.length : Int)) then
    some (.out true)
  else
    bif decide (v8 < (p0.length : Int)) then
      (idx p0 v8).bind fun (y2 : Int) =>
      (idx p1 v9).bind fun (y3 : Int) =>
      some (.out (decide (y2 < y3)))
    else
      some (.out false)
def graph_merged.j11 (p0 : (List Int)) (p1 : (List Int)) (v8 : Int) (v9 : Int) : Option (LO Bool Unit (List Int)) :=
  bif decide (v8 = (p0.length : Int)) then
    some (.out true)
  else
    (idx p1 v9).bind fun (y6 : Int) =>
    (idx p0 v8).bind fun (y7 : Int) =>
    some (.out (decide (y6 < y7)))
def graph_merged.l3 (p0 : (List Int)) (p1 : (List Int)) (p2 : Int) (self : (Int × (Int × (List Int))) → Option (LO (Int × (Int × (List Int))) Unit (List Int))) (v8 : Int) (v9 : Int) (v7 : (List Int)) : Option (LO (Int × (Int × (List Int))) Unit (List Int)) :=
  (graph_merged.j6 p0 p1 v8 v9).bind fun o6 => o6.elim
    (fun z1 =>
      (graph_merged.j7 p0 p1 v8 v9).bind fun o7 => o7.elim
        (fun z4 =>
          bif z4 then
            bif decide (p2 = 1) then
              (idx p0 v8).bind fun (y5 : Int) =>
              bif limB (v7.length + ([y5]).length) then
                self (IntKind.i64.wrap (v8 + 1), v9, v7 ++ ([y5]))
              else
                none
            else
              self (IntKind.i64.wrap (v8 + 1), v9, v7)
          else
            (graph_merged.j11 p0 p1 v8 v9).bind fun o11 => o11.elim
              (fun z8 =>
                bif z8 then
                  bif decide (p2 = 1) then
                    (idx p1 v9).bind fun (y9 : Int) =>
                    bif limB (v7.length + ([y9]).length) then
                      self (v8, IntKind.i64.wrap (v9 + 1), v7 ++ ([y9]))
                    else
                      none
                  else
                    self (v8, IntKind.i64.wrap (v9 + 1), v7)
                else
                  (idx p0 v8).bind fun (y10 : Int) =>
                  bif limB (v7.length + ([y10]).length) then
                    self (IntKind.i64.wrap (v8 + 1), IntKind.i64.wrap (v9 + 1), v7 ++ ([y10]))
                  else
                    none)
              (fun _ => none)
              (fun r11 => some (.ret r11)))
        (fun _ => none)
        (fun r12 => some (.ret r12)))
    (fun z13 =>
      some (.out (v8, v9, v7)))
    (fun r14 => some (.ret r14))
def graph_merged.g (k : Nat) (p0 : (List Int)) (p1 : (List Int)) (p2 : Int) : Option (List Int) :=
  (iter (fun self z15 => graph_merged.l3 p0 p1 p2 self z15.1 z15.2.1 z15.2.2) k (0, 0, [])).bind fun o3 => o3.elim
    (fun z15 =>
      some z15.2.2)
    (fun _ => none)
    (fun r16 => some r16)
def graph_merged.f (k : Nat) (x : Tup graph_merged.sig.ins) : Option (El (outTy graph_merged.sig.outs)) := graph_merged.g k x.1 x.2.1 x.2.2.1
def graph_merged.env (k : Nat) : Env Unit := ⟨[], [], none⟩
theorem graph_merged.eq (k : Nat) : evFn T (graph_merged.env k) graph_merged.hints k graph_merged.sig Go.Proofs.Try.f44 = graph_merged.f k := by funext x; kernel_rfl
theorem graph_merged.sound (k : Nat) : Sound Go.Proofs.Try.prog 44 ⟨graph_merged.sig, graph_merged.f k⟩ := fun_sound T_ok (Φ := graph_merged.env k) ⟨TabS.nil, TabH.nil, CloS.none⟩ Go.Proofs.Try.func44 (by kernel_rfl) (graph_merged.eq k)

/-! tracery/graph.And -/
@[reducible] def graph_And.sig : Sig := ⟨[.v (.dat (.st (.pair (.sl (.int .i64)) (.sl (.int .i64))))), .v (.dat (.st (.pair (.sl (.int .i64)) (.sl (.int .i64)))))], [.v (.dat (.st (.pair (.sl (.int .i64)) (.sl (.int .i64)))))]⟩
def graph_And.hints : Hints := ⟨[(1, 4, 1), (1, 9, 1)], [], [], []⟩
def graph_And.g (k : Nat) (p0 : ((List Int) × (List Int))) (p1 : ((List Int) × (List Int))) : Option ((List Int) × (List Int)) :=
  (graph_merged.g k p0.1 p1.1 (2 : Int)).bind fun (y1 : (List Int)) =>
  (graph_merged.g k p0.2 p1.2 (2 : Int)).bind fun (y2 : (List Int)) =>
  some (y1, y2)
def graph_And.f (k : Nat) (x : Tup graph_And.sig.ins) : Option (El (outTy graph_And.sig.outs)) := graph_And.g k x.1 x.2.1
def graph_And.env (k : Nat) : Env Unit := ⟨[(44, ⟨graph_merged.sig, graph_merged.f k⟩)], [], none⟩
theorem graph_And.eq (k : Nat) : evFn T (graph_And.env k) graph_And.hints k graph_And.sig Go.Proofs.Try.f30 = graph_And.f k := by funext x; kernel_rfl
theorem graph_And.sound (k : Nat) : Sound Go.Proofs.Try.prog 30 ⟨graph_And.sig, graph_And.f k⟩ := fun_sound T_ok (Φ := graph_And.env k) ⟨(TabS.cons (graph_merged.sound k) TabS.nil), TabH.nil, CloS.none⟩ Go.Proofs.Try.func30 (by kernel_rfl) (graph_And.eq k)

/-! tracery/graph.Or -/
@[reducible] def graph_Or.sig : Sig := ⟨[.v (.dat (.st (.pair (.sl (.int .i64)) (.sl (.int .i64))))), .v (.dat (.st (.pair (.sl (.int .i64)) (.sl (.int .i64)))))], [.v (.dat (.st (.pair (.sl (.int .i64)) (.sl (.int .i64)))))]⟩
def graph_Or.hints : Hints := ⟨[(1, 4, 1), (1, 9, 1)], [], [], []⟩
def graph_Or.g (k : Nat) (p0 : ((List Int) × (List Int))) (p1 : ((List Int) × (List Int))) : Option ((List Int) × (List Int)) :=
  (graph_merged.g k p0.1 p1.1 (1 : Int)).bind fun (y1 : (List Int)) =>
  (graph_merged.g k p0.2 p1.2 (1 : Int)).bind fun (y2 : (List Int)) =>
  some (y1, y2)
def graph_Or.f (k : Nat) (x : Tup graph_Or.sig.ins) : Option (El (outTy graph_Or.sig.outs)) := graph_Or.g k x.1 x.2.1
def graph_Or.env (k : Nat) : Env Unit := ⟨[(44, ⟨graph_merged.sig, graph_merged.f k⟩)], [], none⟩
theorem graph_Or.eq (k : Nat) : evFn T (graph_Or.env k) graph_Or.hints k graph_Or.sig Go.Proofs.Try.f31 = graph_Or.f k := by funext x; kernel_rfl
theorem graph_Or.sound (k : Nat) : Sound Go.Proofs.Try.prog 31 ⟨graph_Or.sig, graph_Or.f k⟩ := fun_sound T_ok (Φ := graph_Or.env k) ⟨(TabS.cons (graph_merged.sound k) TabS.nil), TabH.nil, CloS.none⟩ Go.Proofs.Try.func31 (by kernel_rfl) (graph_Or.eq k)

/-! slices.IndexFunc[[]int,int] -/
@[reducible] def slices_IndexFunc.sig : Sig := ⟨[.v (.dat (.sl (.int .i64))), .fn], [.v (.dat (.int .i64))]⟩
def slices_IndexFunc.hints : Hints := ⟨[], [], [(2, [(.tmp 8, .dat (.int .i64))])], []⟩
def slices_IndexFunc.l2 (Ω : Type) (g : Ω → Tup [(.int .i64)] → Option (Bool × Ω)) (p0 : (List Int)) (self : (Int × Ω) → Option (LO (Int × Ω) Unit (Int × Ω))) (v8 : Int) (sΩ : Ω) : Option (LO (Int × Ω) Unit (Int × Ω)) :=
  bif decide (v8 < (p0.length : Int)) then
    (idx p0 v8).bind fun (y1 : Int) =>
    (g sΩ (y1, ())).bind fun (y2 : Bool × Ω) =>
    bif y2.1 then
      some (.ret (v8, y2.2))
    else
      self (IntKind.i64.wrap (v8 + 1), y2.2)
  else
    some (.out (v8, sΩ))
def slices_IndexFunc.g (k : Nat) (Ω : Type) (g : Ω → Tup [(.int .i64)] → Option (Bool × Ω)) (s : Ω) (p0 : (List Int)) : Option (Int × Ω) :=
  (iter (fun self z3 => slices_IndexFunc.l2 Ω g p0 self z3.1 z3.2) k (0, s)).bind fun o2 => o2.elim
    (fun z3 =>
      some ((-1), z3.2))
    (fun _ => none)
    (fun r4 => some r4)
def slices_IndexFunc.hof (k : Nat) : Hof := ⟨slices_IndexFunc.sig, [(.int .i64)], .bool, fun Ω g s x => slices_IndexFunc.g k Ω g s x.1⟩
def slices_IndexFunc.env (k : Nat) (Ω : Type) (al : List Ty) (b : Ty) (g : Ω → Tup al → Option (El b × Ω)) : Env Ω := ⟨[], [], some ⟨al, b, g⟩⟩
theorem slices_IndexFunc.eq (k : Nat) : (fun (Ω : Type) (g : Ω → Tup [(.int .i64)] → Option (El .bool × Ω)) (s : Ω) (x : Tup slices_IndexFunc.sig.ins) => evFnH T (slices_IndexFunc.env k Ω [(.int .i64)] .bool g) slices_IndexFunc.hints k slices_IndexFunc.sig Go.Proofs.Try.f50 s x) = (slices_IndexFunc.hof k).f := by funext Ω g s x; kernel_rfl
theorem slices_IndexFunc.sound (k : Nat) : SoundH Go.Proofs.Try.prog 50 (slices_IndexFunc.hof k) := hofs_sound T_ok (Φ := slices_IndexFunc.env k) (al := [(.int .i64)]) (bt := .bool) (fun Ω C g hg => ⟨TabS.nil, TabH.nil, CloS.some hg⟩) Go.Proofs.Try.func50 (by kernel_rfl) (slices_IndexFunc.eq k)

/-! slices.DeleteFunc[[]int,int] -/
@[reducible] def slices_DeleteFunc.sig : Sig := ⟨[.v (.arr (.int .i64)), .fn], [.v (.arr (.int .i64))]⟩
def slices_DeleteFunc.hints : Hints := ⟨[], [], [(5, [(.tmp 6, .dat (.int .i64)), (.tmp 5, .dat (.int .i64)), (.tmp 0, .arr (.int .i64))])], []⟩
def slices_DeleteFunc.l5 (Ω : Type) (g : Ω → Tup [(.int .i64)] → Option (Bool × Ω)) (self : ((Int × (Int × (List Int))) × Ω) → Option (LO ((Int × (Int × (List Int))) × Ω) Unit ((List Int) × Ω))) (v6 : Int) (v5 : Int) (v0 : (List Int)) (sΩ : Ω) : Option (LO ((Int × (Int × (List Int))) × Ω) Unit ((List Int) × Ω)) :=
  bif decide (v6 < (v0.length : Int)) then
    (idx v0 v6).bind fun _ =>
    (idx v0 v6).bind fun (y2 : Int) =>
    (g sΩ (y2, ())).bind fun (y3 : Bool × Ω) =>
    bif !y3.1 then
      (idx v0 v5).bind fun _ =>
      (idx v0 v5).bind fun (y4 : Int) =>
      self (((IntKind.i64.wrap (v6 + 1), IntKind.i64.wrap (v5 + 1), v0.set v5.toNat y2), y3.2))
    else
      self (((IntKind.i64.wrap (v6 + 1), v5, v0), y3.2))
  else
    some (.out ((v6, v5, v0), sΩ))
def slices_DeleteFunc.g (k : Nat) (Ω : Type) (g : Ω → Tup [(.int .i64)] → Option (Bool × Ω)) (s : Ω) (p0 : (List Int)) : Option ((List Int) × Ω) :=
  (slices_IndexFunc.g k Ω (fun (s : Ω) (x : Tup [(.int .i64)]) => (g s (x.1, ())).bind fun y => some (y.1, y.2)) s p0).bind fun (y1 : Int × Ω) =>
  bif decide (y1.1 = (-1)) then
    some (p0, y1.2)
  else
    (iter (fun self z5 => slices_DeleteFunc.l5 Ω g self z5.1.1 z5.1.2.1 z5.1.2.2 z5.2) k (((IntKind.i64.wrap (y1.1 + 1), y1.1, p0), y1.2))).bind fun o5 => o5.elim
      (fun z5 =>
        (cut z5.1.2.2 z5.1.2.1 (z5.1.2.2.length : Int)).bind fun _ =>
        (cut z5.1.2.2 z5.1.2.1 (z5.1.2.2.length : Int)).bind fun (y6 : (List Int)) =>
        (cut (z5.1.2.2.take z5.1.2.1.toNat ++ List.replicate y6.length (0 : Int) ++ z5.1.2.2.drop (z5.1.2.2.length : Int).toNat) 0 z5.1.2.1).bind fun _ =>
        (cut (z5.1.2.2.take z5.1.2.1.toNat ++ List.replicate y6.length (0 : Int) ++ z5.1.2.2.drop (z5.1.2.2.length : Int).toNat) 0 z5.1.2.1).bind fun (y7 : (List Int)) =>
        some (y7, z5.2))
      (fun _ => none)
      (fun r8 => some r8)
def slices_DeleteFunc.hof (k : Nat) : Hof := ⟨slices_DeleteFunc.sig, [(.int .i64)], .bool, fun Ω g s x => slices_DeleteFunc.g k Ω g s x.1⟩
def slices_DeleteFunc.env (k : Nat) (Ω : Type) (al : List Ty) (b : Ty) (g : Ω → Tup al → Option (El b × Ω)) : Env Ω := ⟨[], [(50, slices_IndexFunc.hof k)], some ⟨al, b, g⟩⟩
theorem slices_DeleteFunc.eq (k : Nat) : (fun (Ω : Type) (g : Ω → Tup [(.int .i64)] → Option (El .bool × Ω)) (s : Ω) (x : Tup slices_DeleteFunc.sig.ins) => evFnH T (slices_DeleteFunc.env k Ω [(.int .i64)] .bool g) slices_DeleteFunc.hints k slices_DeleteFunc.sig Go.Proofs.Try.f45 s x) = (slices_DeleteFunc.hof k).f := by funext Ω g s x; kernel_rfl
theorem slices_DeleteFunc.sound (k : Nat) : SoundH Go.Proofs.Try.prog 45 (slices_DeleteFunc.hof k) := hofs_sound T_ok (Φ := slices_DeleteFunc.env k) (al := [(.int .i64)]) (bt := .bool) (fun Ω C g hg => ⟨TabS.nil, (TabH.cons (slices_IndexFunc.sound k) TabH.nil), CloS.some hg⟩) Go.Proofs.Try.func45 (by kernel_rfl) (slices_DeleteFunc.eq k)

/-! tracery/graph.Drop$1 -/
@[reducible] def graph_Drop_1.sig : Sig := ⟨[.v (.dat (.int .i64)), .bx [.dat (.int .i64)]], [.v (.dat .bool)]⟩
def graph_Drop_1.hints : Hints := ⟨[], [], [], []⟩
def graph_Drop_1.g (k : Nat) (p0 : Int) (p1_0 : Int) : Option (Bool × Int) :=
  some (decide (p0 = p1_0), p1_0)
def graph_Drop_1.f (k : Nat) (x : Tup graph_Drop_1.sig.ins) : Option (El (outTy graph_Drop_1.sig.outs)) := graph_Drop_1.g k x.1 x.2.1
def graph_Drop_1.env (k : Nat) : Env Unit := ⟨[], [], none⟩
theorem graph_Drop_1.eq (k : Nat) : evFn T (graph_Drop_1.env k) graph_Drop_1.hints k graph_Drop_1.sig Go.Proofs.Try.f46 = graph_Drop_1.f k := by funext x; kernel_rfl
theorem graph_Drop_1.sound (k : Nat) : Sound Go.Proofs.Try.prog 46 ⟨graph_Drop_1.sig, graph_Drop_1.f k⟩ := fun_sound T_ok (Φ := graph_Drop_1.env k) ⟨TabS.nil, TabH.nil, CloS.none⟩ Go.Proofs.Try.func46 (by kernel_rfl) (graph_Drop_1.eq k)

/-! tracery/graph.Drop -/
@[reducible] def graph_Drop.sig : Sig := ⟨[.v (.dat (.st (.pair (.sl (.int .i64)) (.sl (.int .i64))))), .v (.dat (.int .i64))], [.v (.dat (.st (.pair (.sl (.int .i64)) (.sl (.int .i64)))))]⟩
def graph_Drop.hints : Hints := ⟨[(1, 2, 1), (1, 4, 1), (2, 2, 1)], [], [], []⟩
def graph_Drop.g (k : Nat) (p0 : ((List Int) × (List Int))) (p1 : Int) : Option ((List Int) × (List Int)) :=
  (slices_Clone.g k p0.2).bind fun (y1 : (List Int)) =>
  (slices_DeleteFunc.g k Int (fun (s : Int) (x : Tup [(.int .i64)]) => (graph_Drop_1.g k x.1 s).bind fun y => some (y.1, y.2)) p1 y1).bind fun (y2 : (List Int) × Int) =>
  (slices_Clone.g k p0.1).bind fun (y3 : (List Int)) =>
  some (y3, y2.1)
def graph_Drop.f (k : Nat) (x : Tup graph_Drop.sig.ins) : Option (El (outTy graph_Drop.sig.outs)) := graph_Drop.g k x.1 x.2.1
def graph_Drop.env (k : Nat) : Env Unit := ⟨[(40, ⟨slices_Clone.sig, slices_Clone.f k⟩), (46, ⟨graph_Drop_1.sig, graph_Drop_1.f k⟩)], [(45, slices_DeleteFunc.hof k)], none⟩
theorem graph_Drop.eq (k : Nat) : evFn T (graph_Drop.env k) graph_Drop.hints k graph_Drop.sig Go.Proofs.Try.f32 = graph_Drop.f k := by funext x; kernel_rfl
theorem graph_Drop.sound (k : Nat) : Sound Go.Proofs.Try.prog 32 ⟨graph_Drop.sig, graph_Drop.f k⟩ := fun_sound T_ok (Φ := graph_Drop.env k) ⟨(TabS.cons (slices_Clone.sound k) (TabS.cons (graph_Drop_1.sound k) TabS.nil)), (TabH.cons (slices_DeleteFunc.sound k) TabH.nil), CloS.none⟩ Go.Proofs.Try.func32 (by kernel_rfl) (graph_Drop.eq k)

/-! tracery/graph.Within -/
@[reducible] def graph_Within.sig : Sig := ⟨[.v (.dat (.st (.pair (.sl (.int .i64)) (.sl (.int .i64))))), .v (.dat (.st (.pair (.sl (.int .i64)) (.sl (.int .i64)))))], [.v (.dat .bool)]⟩
def graph_Within.hints : Hints := ⟨[], [], [], []⟩
def graph_Within.g (k : Nat) (p0 : ((List Int) × (List Int))) (p1 : ((List Int) × (List Int))) : Option Bool :=
  (graph_And.g k p0 p1).bind fun (y1 : ((List Int) × (List Int))) =>
  (graph_Same.g k y1 p0).bind fun (y2 : Bool) =>
  some y2
def graph_Within.f (k : Nat) (x : Tup graph_Within.sig.ins) : Option (El (outTy graph_Within.sig.outs)) := graph_Within.g k x.1 x.2.1
def graph_Within.env (k : Nat) : Env Unit := ⟨[(20, ⟨graph_Same.sig, graph_Same.f k⟩), (30, ⟨graph_And.sig, graph_And.f k⟩)], [], none⟩
theorem graph_Within.eq (k : Nat) : evFn T (graph_Within.env k) graph_Within.hints k graph_Within.sig Go.Proofs.Try.f33 = graph_Within.f k := by funext x; kernel_rfl
theorem graph_Within.sound (k : Nat) : Sound Go.Proofs.Try.prog 33 ⟨graph_Within.sig, graph_Within.f k⟩ := fun_sound T_ok (Φ := graph_Within.env k) ⟨(TabS.cons (graph_Same.sound k) (TabS.cons (graph_And.sound k) TabS.nil)), TabH.nil, CloS.none⟩ Go.Proofs.Try.func33 (by kernel_rfl) (graph_Within.eq k)

/-! tracery/tracerylaw04.GraphParts -/
@[reducible] def tracerylaw04_GraphParts.sig : Sig := ⟨[.v (.dat (.st (.pair (.int .i64) (.sl (.st (.pair (.int .i64) (.int .i64))))))), .v (.dat (.st (.pair (.sl (.int .i64)) (.sl (.int .i64))))), .v (.dat (.st (.pair (.sl (.int .i64)) (.sl (.int .i64))))), .v (.dat (.int .i64))], [.v (.dat .bool)]⟩
def tracerylaw04_GraphParts.hints : Hints := ⟨[], [], [], []⟩
def tracerylaw04_GraphParts.g (k : Nat) (p0 : (Int × (List (Int × Int)))) (p1 : ((List Int) × (List Int))) (p2 : ((List Int) × (List Int))) (p3 : Int) : Option Bool :=
  (tracerylaw04_awake.g k).bind fun (y1 : Bool) =>
  bif !y1 then
    (tracerylaw04_awake.g k).bind fun (y2 : Bool) =>
    some y2
  else
    (tracerylaw04_Small.g k p0 p1).bind fun (y3 : Int) =>
    bif decide (y3 = 0) then
      (tracerylaw04_awake.g k).bind fun (y4 : Bool) =>
      some y4
    else
      (tracerylaw04_Small.g k p0 p2).bind fun (y5 : Int) =>
      bif decide (y5 = 0) then
        (tracerylaw04_awake.g k).bind fun (y6 : Bool) =>
        some y6
      else
        (graph_RightPart.g k p0 p1).bind fun (y7 : Int) =>
        bif !(decide (y7 = 0)) then
          (tracerylaw04_awake.g k).bind fun (y8 : Bool) =>
          some y8
        else
          (graph_RightPart.g k p0 p2).bind fun (y9 : Int) =>
          bif !(decide (y9 = 0)) then
            (tracerylaw04_awake.g k).bind fun (y10 : Bool) =>
            some y10
          else
            (graph_And.g k p1 p2).bind fun (y11 : ((List Int) × (List Int))) =>
            (graph_Or.g k p1 p2).bind fun (y12 : ((List Int) × (List Int))) =>
            (graph_Drop.g k p1 p3).bind fun (y13 : ((List Int) × (List Int))) =>
            (graph_RightPart.g k p0 y11).bind fun (y14 : Int) =>
            bif !(decide (y14 = 0)) then
              some false
            else
              (graph_RightPart.g k p0 y12).bind fun (y15 : Int) =>
              bif !(decide (y15 = 0)) then
                some false
              else
                (graph_RightPart.g k p0 y13).bind fun (y16 : Int) =>
                bif !(decide (y16 = 0)) then
                  some false
                else
                  (graph_Within.g k y11 p1).bind fun (y17 : Bool) =>
                  bif y17 then
                    (graph_Within.g k y11 p2).bind fun (y18 : Bool) =>
                    bif y18 then
                      (graph_Within.g k p1 y12).bind fun (y19 : Bool) =>
                      bif y19 then
                        (graph_Within.g k p2 y12).bind fun (y20 : Bool) =>
                        bif y20 then
                          (graph_Within.g k y13 p1).bind fun (y21 : Bool) =>
                          bif y21 then
                            (graph_Has.g k y13.2 p3).bind fun (y22 : Bool) =>
                            bif !y22 then
                              (graph_Or.g k y11 y12).bind fun (y23 : ((List Int) × (List Int))) =>
                              (graph_Same.g k y23 y12).bind fun (y24 : Bool) =>
                              bif y24 then
                                (graph_Whole.g k p0).bind fun (y25 : ((List Int) × (List Int))) =>
                                (graph_Within.g k p1 y25).bind fun (y26 : Bool) =>
                                some y26
                              else
                                some false
                            else
                              some false
                          else
                            some false
                        else
                          some false
                      else
                        some false
                    else
                      some false
                  else
                    some false
def tracerylaw04_GraphParts.f (k : Nat) (x : Tup tracerylaw04_GraphParts.sig.ins) : Option (El (outTy tracerylaw04_GraphParts.sig.outs)) := tracerylaw04_GraphParts.g k x.1 x.2.1 x.2.2.1 x.2.2.2.1
def tracerylaw04_GraphParts.env (k : Nat) : Env Unit := ⟨[(9, ⟨tracerylaw04_awake.sig, tracerylaw04_awake.f k⟩), (10, ⟨tracerylaw04_Small.sig, tracerylaw04_Small.f k⟩), (15, ⟨graph_Whole.sig, graph_Whole.f k⟩), (20, ⟨graph_Same.sig, graph_Same.f k⟩), (23, ⟨graph_RightPart.sig, graph_RightPart.f k⟩), (30, ⟨graph_And.sig, graph_And.f k⟩), (31, ⟨graph_Or.sig, graph_Or.f k⟩), (32, ⟨graph_Drop.sig, graph_Drop.f k⟩), (33, ⟨graph_Within.sig, graph_Within.f k⟩), (34, ⟨graph_Has.sig, graph_Has.f k⟩)], [], none⟩
theorem tracerylaw04_GraphParts.eq (k : Nat) : evFn T (tracerylaw04_GraphParts.env k) tracerylaw04_GraphParts.hints k tracerylaw04_GraphParts.sig Go.Proofs.Try.f6 = tracerylaw04_GraphParts.f k := by funext x; kernel_rfl
theorem tracerylaw04_GraphParts.sound (k : Nat) : Sound Go.Proofs.Try.prog 6 ⟨tracerylaw04_GraphParts.sig, tracerylaw04_GraphParts.f k⟩ := fun_sound T_ok (Φ := tracerylaw04_GraphParts.env k) ⟨(TabS.cons (tracerylaw04_awake.sound k) (TabS.cons (tracerylaw04_Small.sound k) (TabS.cons (graph_Whole.sound k) (TabS.cons (graph_Same.sound k) (TabS.cons (graph_RightPart.sound k) (TabS.cons (graph_And.sound k) (TabS.cons (graph_Or.sound k) (TabS.cons (graph_Drop.sound k) (TabS.cons (graph_Within.sound k) (TabS.cons (graph_Has.sound k) TabS.nil)))))))))), TabH.nil, CloS.none⟩ Go.Proofs.Try.func6 (by kernel_rfl) (tracerylaw04_GraphParts.eq k)

/-! tracery/traceryref04.And -/
@[reducible] def traceryref04_And.sig : Sig := ⟨[.v (.dat (.sl (.int .i64))), .v (.dat (.sl (.int .i64)))], [.v (.arr (.int .i64))]⟩
def traceryref04_And.hints : Hints := ⟨[(6, 5, 1), (6, 6, 1)], [], [(3, [(.tmp 6, .dat (.int .i64)), (.tmp 5, .arr (.int .i64))])], []⟩
def traceryref04_And.l3 (k : Nat) (p0 : (List Int)) (p1 : (List Int)) (self : (Int × (List Int)) → Option (LO (Int × (List Int)) Unit (List Int))) (v6 : Int) (v5 : (List Int)) : Option (LO (Int × (List Int)) Unit (List Int)) :=
  bif decide (v6 < (p0.length : Int)) then
    (idx p0 v6).bind fun (y1 : Int) =>
    (traceryref04_In.g k p1 y1).bind fun (y2 : Bool) =>
    bif y2 then
      (idx p0 v6).bind fun (y3 : Int) =>
      bif limB (v5.length + ([y3]).length) then
        self (IntKind.i64.wrap (v6 + 1), v5 ++ ([y3]))
      else
        none
    else
      self (IntKind.i64.wrap (v6 + 1), v5)
  else
    some (.out (v6, v5))
def traceryref04_And.g (k : Nat) (p0 : (List Int)) (p1 : (List Int)) : Option (List Int) :=
  (iter (fun self z4 => traceryref04_And.l3 k p0 p1 self z4.1 z4.2) k (0, [])).bind fun o3 => o3.elim
    (fun z4 =>
      some z4.2)
    (fun _ => none)
    (fun r5 => some r5)
def traceryref04_And.f (k : Nat) (x : Tup traceryref04_And.sig.ins) : Option (El (outTy traceryref04_And.sig.outs)) := traceryref04_And.g k x.1 x.2.1
def traceryref04_And.env (k : Nat) : Env Unit := ⟨[(16, ⟨traceryref04_In.sig, traceryref04_In.f k⟩)], [], none⟩
theorem traceryref04_And.eq (k : Nat) : evFn T (traceryref04_And.env k) traceryref04_And.hints k traceryref04_And.sig Go.Proofs.Try.f35 = traceryref04_And.f k := by funext x; kernel_rfl
theorem traceryref04_And.sound (k : Nat) : Sound Go.Proofs.Try.prog 35 ⟨traceryref04_And.sig, traceryref04_And.f k⟩ := fun_sound T_ok (Φ := traceryref04_And.env k) ⟨(TabS.cons (traceryref04_In.sound k) TabS.nil), TabH.nil, CloS.none⟩ Go.Proofs.Try.func35 (by kernel_rfl) (traceryref04_And.eq k)

/-! tracery/traceryref04.Or -/
@[reducible] def traceryref04_Or.sig : Sig := ⟨[.v (.dat (.sl (.int .i64))), .v (.dat (.sl (.int .i64)))], [.v (.arr (.int .i64))]⟩
def traceryref04_Or.hints : Hints := ⟨[(7, 5, 1), (7, 6, 1), (9, 5, 1), (9, 6, 1)], [], [(3, [(.tmp 6, .dat (.int .i64)), (.tmp 7, .dat (.int .i64)), (.tmp 5, .arr (.int .i64))])], [(4, ⟨[], some (0, [])⟩), (5, ⟨[(.tmp 38, .dat .bool)], none⟩), (7, ⟨[(.tmp 7, .dat (.int .i64))], none⟩)]⟩
def traceryref04_Or.j4 (p0 : (List Int)) (p1 : (List Int)) (v6 : Int) (v7 : Int) : Option (LO Unit Unit (List Int)) :=
  bif decide (v6 < (p0.length : Int)) then
    some (.out ())
  else
    bif decide (v7 < (p1.length : Int)) then
      some (.out ())
    else
      some (.ex ())
def traceryref04_Or.j5 (p0 : (List Int)) (p1 : (List Int)) (v6 : Int) (v7 : Int) : Option (LO Bool Unit (List Int)) :=
  bif decide (v7 = (p1.length : Int)) then
    some (.out true)
  else
    bif decide (v6 < (p0.length : Int)) then
      (idx p0 v6).bind fun (y2 : Int) =>
      (idx p1 v7).bind fun (y3 : Int) =>
      some (.out (decide (y2 ≤ y3)))
    else
      some (.out false)
def traceryref04_Or.j7 (p0 : (List Int)) (p1 : (List Int)) (v6 : Int) (v7 : Int) : Option (LO Int Unit (List Int)) :=
  bif decide (v7 < (p1.length : Int)) then
    (idx p0 v6).bind fun (y5 : Int) =>
    (idx p1 v7).bind fun (y6 : Int) =>
    bif decide (y5 = y6) then
      some (.out (IntKind.i64.wrap (v7 + 1)))
    else
      some (.out v7)
  else
    some (.out v7)
def traceryref04_Or.l3 (p0 : (List Int)) (p1 : (List Int)) (self : (Int × (Int × (List Int))) → Option (LO (Int × (Int × (List Int))) Unit (List Int))) (v6 : Int) (v7 : Int) (v5 : (List Int)) : Option (LO (Int × (Int × (List Int))) Unit (List Int)) :=
  (traceryref04_Or.j4 p0 p1 v6 v7).bind fun o4 => o4.elim
    (fun z1 =>
      (traceryref04_Or.j5 p0 p1 v6 v7).bind fun o5 => o5.elim
        (fun z4 =>
          bif z4 then
            (traceryref04_Or.j7 p0 p1 v6 v7).bind fun o7 => o7.elim
              (fun z7 =>
                (idx p0 v6).bind fun (y8 : Int) =>
                bif limB (v5.length + ([y8]).length) then
                  self (IntKind.i64.wrap (v6 + 1), z7, v5 ++ ([y8]))
                else
                  none)
              (fun _ => none)
              (fun r9 => some (.ret r9))
          else
            (idx p1 v7).bind fun (y10 : Int) =>
            bif limB (v5.length + ([y10]).length) then
              self (v6, IntKind.i64.wrap (v7 + 1), v5 ++ ([y10]))
            else
              none)
        (fun _ => none)
        (fun r11 => some (.ret r11)))
    (fun z12 =>
      some (.out (v6, v7, v5)))
    (fun r13 => some (.ret r13))
def traceryref04_Or.g (k : Nat) (p0 : (List Int)) (p1 : (List Int)) : Option (List Int) :=
  (iter (fun self z14 => traceryref04_Or.l3 p0 p1 self z14.1 z14.2.1 z14.2.2) k (0, 0, [])).bind fun o3 => o3.elim
    (fun z14 =>
      some z14.2.2)
    (fun _ => none)
    (fun r15 => some r15)
def traceryref04_Or.f (k : Nat) (x : Tup traceryref04_Or.sig.ins) : Option (El (outTy traceryref04_Or.sig.outs)) := traceryref04_Or.g k x.1 x.2.1
def traceryref04_Or.env (k : Nat) : Env Unit := ⟨[], [], none⟩
theorem traceryref04_Or.eq (k : Nat) : evFn T (traceryref04_Or.env k) traceryref04_Or.hints k traceryref04_Or.sig Go.Proofs.Try.f36 = traceryref04_Or.f k := by funext x; kernel_rfl
theorem traceryref04_Or.sound (k : Nat) : Sound Go.Proofs.Try.prog 36 ⟨traceryref04_Or.sig, traceryref04_Or.f k⟩ := fun_sound T_ok (Φ := traceryref04_Or.env k) ⟨TabS.nil, TabH.nil, CloS.none⟩ Go.Proofs.Try.func36 (by kernel_rfl) (traceryref04_Or.eq k)

/-! tracery/tracerylaw04.GraphLists -/
@[reducible] def tracerylaw04_GraphLists.sig : Sig := ⟨[.v (.dat (.st (.pair (.sl (.int .i64)) (.sl (.int .i64))))), .v (.dat (.st (.pair (.sl (.int .i64)) (.sl (.int .i64))))), .v (.dat (.int .i64))], [.v (.dat .bool)]⟩
def tracerylaw04_GraphLists.hints : Hints := ⟨[(6, 6, 1), (6, 16, 1), (6, 27, 1), (6, 38, 1), (13, 6, 1), (13, 7, 1)], [], [(10, [(.tmp 10, .dat (.int .i64)), (.tmp 9, .arr (.int .i64))])], []⟩
def tracerylaw04_GraphLists.l10 (p0 : ((List Int) × (List Int))) (p2 : Int) (self : (Int × (List Int)) → Option (LO (Int × (List Int)) Unit Bool)) (v10 : Int) (v9 : (List Int)) : Option (LO (Int × (List Int)) Unit Bool) :=
  bif decide (v10 < (p0.2.length : Int)) then
    (idx p0.2 v10).bind fun (y21 : Int) =>
    bif !(decide (y21 = p2)) then
      (idx p0.2 v10).bind fun (y22 : Int) =>
      bif limB (v9.length + ([y22]).length) then
        self (IntKind.i64.wrap (v10 + 1), v9 ++ ([y22]))
      else
        none
    else
      self (IntKind.i64.wrap (v10 + 1), v9)
  else
    some (.out (v10, v9))
def tracerylaw04_GraphLists.g (k : Nat) (p0 : ((List Int) × (List Int))) (p1 : ((List Int) × (List Int))) (p2 : Int) : Option Bool :=
  (tracerylaw04_awake.g k).bind fun (y1 : Bool) =>
  bif !y1 then
    (tracerylaw04_awake.g k).bind fun (y2 : Bool) =>
    some y2
  else
    (tracerylaw04_Small.g k ((0 : Int), []) p0).bind fun (y3 : Int) =>
    bif decide (y3 = 0) then
      (tracerylaw04_awake.g k).bind fun (y4 : Bool) =>
      some y4
    else
      (tracerylaw04_Small.g k ((0 : Int), []) p1).bind fun (y5 : Int) =>
      bif decide (y5 = 0) then
        (tracerylaw04_awake.g k).bind fun (y6 : Bool) =>
        some y6
      else
        (traceryref04_Rises.g k p0.1 (1099511627776 : Int)).bind fun (y7 : Bool) =>
        bif !y7 then
          some true
        else
          (traceryref04_Rises.g k p0.2 (1099511627776 : Int)).bind fun (y8 : Bool) =>
          bif !y8 then
            some true
          else
            (traceryref04_Rises.g k p1.1 (1099511627776 : Int)).bind fun (y9 : Bool) =>
            bif !y9 then
              some true
            else
              (traceryref04_Rises.g k p1.2 (1099511627776 : Int)).bind fun (y10 : Bool) =>
              bif !y10 then
                some true
              else
                (graph_And.g k p0 p1).bind fun (y11 : ((List Int) × (List Int))) =>
                (graph_Or.g k p0 p1).bind fun (y12 : ((List Int) × (List Int))) =>
                (traceryref04_And.g k p0.1 p1.1).bind fun (y13 : (List Int)) =>
                (traceryref04_Equal.g k y11.1 y13).bind fun (y14 : Bool) =>
                bif !y14 then
                  some false
                else
                  (traceryref04_And.g k p0.2 p1.2).bind fun (y15 : (List Int)) =>
                  (traceryref04_Equal.g k y11.2 y15).bind fun (y16 : Bool) =>
                  bif !y16 then
                    some false
                  else
                    (traceryref04_Or.g k p0.1 p1.1).bind fun (y17 : (List Int)) =>
                    (traceryref04_Equal.g k y12.1 y17).bind fun (y18 : Bool) =>
                    bif !y18 then
                      some false
                    else
                      (traceryref04_Or.g k p0.2 p1.2).bind fun (y19 : (List Int)) =>
                      (traceryref04_Equal.g k y12.2 y19).bind fun (y20 : Bool) =>
                      bif !y20 then
                        some false
                      else
                        (iter (fun self z23 => tracerylaw04_GraphLists.l10 p0 p2 self z23.1 z23.2) k (0, [])).bind fun o10 => o10.elim
                          (fun z23 =>
                            (graph_Drop.g k p0 p2).bind fun (y24 : ((List Int) × (List Int))) =>
                            (traceryref04_Equal.g k y24.2 z23.2).bind fun (y25 : Bool) =>
                            bif y25 then
                              (traceryref04_Equal.g k y24.1 p0.1).bind fun (y26 : Bool) =>
                              bif y26 then
                                (graph_Has.g k p0.1 p2).bind fun (y27 : Bool) =>
                                (traceryref04_In.g k p0.1 p2).bind fun (y28 : Bool) =>
                                bif (y27 == y28) then
                                  (graph_Same.g k p0 p1).bind fun (y29 : Bool) =>
                                  (traceryref04_Same.g k p0 p1).bind fun (y30 : Bool) =>
                                  bif (y29 == y30) then
                                    (graph_Within.g k p0 p1).bind fun (y31 : Bool) =>
                                    bif decide ((y11.1.length : Int) = (p0.1.length : Int)) then
                                      some ((y31 == decide ((y11.2.length : Int) = (p0.2.length : Int))))
                                    else
                                      some (y31 == false)
                                  else
                                    some false
                                else
                                  some false
                              else
                                some false
                            else
                              some false)
                          (fun _ => none)
                          (fun r32 => some r32)
def tracerylaw04_GraphLists.f (k : Nat) (x : Tup tracerylaw04_GraphLists.sig.ins) : Option (El (outTy tracerylaw04_GraphLists.sig.outs)) := tracerylaw04_GraphLists.g k x.1 x.2.1 x.2.2.1
def tracerylaw04_GraphLists.env (k : Nat) : Env Unit := ⟨[(9, ⟨tracerylaw04_awake.sig, tracerylaw04_awake.f k⟩), (10, ⟨tracerylaw04_Small.sig, tracerylaw04_Small.f k⟩), (16, ⟨traceryref04_In.sig, traceryref04_In.f k⟩), (17, ⟨traceryref04_Rises.sig, traceryref04_Rises.f k⟩), (20, ⟨graph_Same.sig, graph_Same.f k⟩), (21, ⟨traceryref04_Same.sig, traceryref04_Same.f k⟩), (28, ⟨traceryref04_Equal.sig, traceryref04_Equal.f k⟩), (30, ⟨graph_And.sig, graph_And.f k⟩), (31, ⟨graph_Or.sig, graph_Or.f k⟩), (32, ⟨graph_Drop.sig, graph_Drop.f k⟩), (33, ⟨graph_Within.sig, graph_Within.f k⟩), (34, ⟨graph_Has.sig, graph_Has.f k⟩), (35, ⟨traceryref04_And.sig, traceryref04_And.f k⟩), (36, ⟨traceryref04_Or.sig, traceryref04_Or.f k⟩)], [], none⟩
theorem tracerylaw04_GraphLists.eq (k : Nat) : evFn T (tracerylaw04_GraphLists.env k) tracerylaw04_GraphLists.hints k tracerylaw04_GraphLists.sig Go.Proofs.Try.f7 = tracerylaw04_GraphLists.f k := by funext x; kernel_rfl
theorem tracerylaw04_GraphLists.sound (k : Nat) : Sound Go.Proofs.Try.prog 7 ⟨tracerylaw04_GraphLists.sig, tracerylaw04_GraphLists.f k⟩ := fun_sound T_ok (Φ := tracerylaw04_GraphLists.env k) ⟨(TabS.cons (tracerylaw04_awake.sound k) (TabS.cons (tracerylaw04_Small.sound k) (TabS.cons (traceryref04_In.sound k) (TabS.cons (traceryref04_Rises.sound k) (TabS.cons (graph_Same.sound k) (TabS.cons (traceryref04_Same.sound k) (TabS.cons (traceryref04_Equal.sound k) (TabS.cons (graph_And.sound k) (TabS.cons (graph_Or.sound k) (TabS.cons (graph_Drop.sound k) (TabS.cons (graph_Within.sound k) (TabS.cons (graph_Has.sound k) (TabS.cons (traceryref04_And.sound k) (TabS.cons (traceryref04_Or.sound k) TabS.nil)))))))))))))), TabH.nil, CloS.none⟩ Go.Proofs.Try.func7 (by kernel_rfl) (tracerylaw04_GraphLists.eq k)

/-! tracery/tracerylaw04.GraphPuts -/
@[reducible] def tracerylaw04_GraphPuts.sig : Sig := ⟨[.v (.dat (.st (.pair (.int .i64) (.sl (.st (.pair (.int .i64) (.int .i64))))))), .v (.dat (.st (.pair (.sl (.int .i64)) (.sl (.int .i64))))), .v (.dat (.int .i64))], [.v (.dat .bool)]⟩
def tracerylaw04_GraphPuts.hints : Hints := ⟨[(4, 2, 1)], [], [], []⟩
def tracerylaw04_GraphPuts.g (k : Nat) (p0 : (Int × (List (Int × Int)))) (p1 : ((List Int) × (List Int))) (p2 : Int) : Option Bool :=
  (tracerylaw04_awake.g k).bind fun (y1 : Bool) =>
  bif !y1 then
    (tracerylaw04_awake.g k).bind fun (y2 : Bool) =>
    some y2
  else
    (tracerylaw04_Small.g k p0 p1).bind fun (y3 : Int) =>
    bif decide (y3 = 0) then
      (tracerylaw04_awake.g k).bind fun (y4 : Bool) =>
      some y4
    else
      (graph_RightPart.g k p0 p1).bind fun (y5 : Int) =>
      bif !(decide (y5 = 0)) then
        (tracerylaw04_awake.g k).bind fun (y6 : Bool) =>
        some y6
      else
        (graph_Drop.g k p1 p2).bind fun (y7 : ((List Int) × (List Int))) =>
        (graph_Span.g k p0 ([p2])).bind fun (y8 : (((List Int) × (List Int)) × Int)) =>
        bif !(decide (y8.2 = 0)) then
          (graph_Same.g k y7 p1).bind fun (y9 : Bool) =>
          bif y9 then
            some true
          else
            (graph_Has.g k p1.2 p2).bind fun (y10 : Bool) =>
            some y10
        else
          (graph_Has.g k p1.2 p2).bind fun (y11 : Bool) =>
          bif !y11 then
            (graph_Same.g k y7 p1).bind fun (y12 : Bool) =>
            bif y12 then
              some true
            else
              (graph_Has.g k p1.2 p2).bind fun (y13 : Bool) =>
              some y13
          else
            (graph_Has.g k y7.2 p2).bind fun (y14 : Bool) =>
            bif !y14 then
              (graph_Or.g k y7 y8.1).bind fun (y15 : ((List Int) × (List Int))) =>
              (graph_Same.g k y15 p1).bind fun (y16 : Bool) =>
              bif y16 then
                (graph_Within.g k y8.1 p1).bind fun (y17 : Bool) =>
                bif y17 then
                  (graph_Within.g k y8.1 y7).bind fun (y18 : Bool) =>
                  some !y18
                else
                  some false
              else
                some false
            else
              some false
def tracerylaw04_GraphPuts.f (k : Nat) (x : Tup tracerylaw04_GraphPuts.sig.ins) : Option (El (outTy tracerylaw04_GraphPuts.sig.outs)) := tracerylaw04_GraphPuts.g k x.1 x.2.1 x.2.2.1
def tracerylaw04_GraphPuts.env (k : Nat) : Env Unit := ⟨[(9, ⟨tracerylaw04_awake.sig, tracerylaw04_awake.f k⟩), (10, ⟨tracerylaw04_Small.sig, tracerylaw04_Small.f k⟩), (18, ⟨graph_Span.sig, graph_Span.f k⟩), (20, ⟨graph_Same.sig, graph_Same.f k⟩), (23, ⟨graph_RightPart.sig, graph_RightPart.f k⟩), (31, ⟨graph_Or.sig, graph_Or.f k⟩), (32, ⟨graph_Drop.sig, graph_Drop.f k⟩), (33, ⟨graph_Within.sig, graph_Within.f k⟩), (34, ⟨graph_Has.sig, graph_Has.f k⟩)], [], none⟩
theorem tracerylaw04_GraphPuts.eq (k : Nat) : evFn T (tracerylaw04_GraphPuts.env k) tracerylaw04_GraphPuts.hints k tracerylaw04_GraphPuts.sig Go.Proofs.Try.f8 = tracerylaw04_GraphPuts.f k := by funext x; kernel_rfl
theorem tracerylaw04_GraphPuts.sound (k : Nat) : Sound Go.Proofs.Try.prog 8 ⟨tracerylaw04_GraphPuts.sig, tracerylaw04_GraphPuts.f k⟩ := fun_sound T_ok (Φ := tracerylaw04_GraphPuts.env k) ⟨(TabS.cons (tracerylaw04_awake.sound k) (TabS.cons (tracerylaw04_Small.sound k) (TabS.cons (graph_Span.sound k) (TabS.cons (graph_Same.sound k) (TabS.cons (graph_RightPart.sound k) (TabS.cons (graph_Or.sound k) (TabS.cons (graph_Drop.sound k) (TabS.cons (graph_Within.sound k) (TabS.cons (graph_Has.sound k) TabS.nil))))))))), TabH.nil, CloS.none⟩ Go.Proofs.Try.func8 (by kernel_rfl) (tracerylaw04_GraphPuts.eq k)
end Go.Proofs.Ytbgefphoochgcaa.FX
