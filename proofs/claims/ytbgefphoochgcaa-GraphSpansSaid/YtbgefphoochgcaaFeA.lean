/- FE, part 1: the evaluator: typed data, states, operations as small programs over a state, code in continuations. Nothing is proved here; nothing of a program stands here. -/
import Derived.Calls
namespace Go.Proofs.Ytbgefphoochgcaa.FE
open Go
set_option linter.unusedVariables false
set_option linter.unusedSimpArgs false

/-! ### typed data -/
inductive Ty where
  | bool | int (k : IntKind) | str | unit
  | pair (a b : Ty) | st (r : Ty) | sl (e : Ty) | mp (k v : Ty) | pt (t : Ty)
  deriving Inhabited
def IK : IntKind → Nat | .i8 => 0 | .i16 => 1 | .i32 => 2 | .i64 => 3 | .u8 => 4 | .u16 => 5 | .u32 => 6 | .u64 => 7
def Ty.beq : Ty → Ty → Bool
  | .bool, .bool => true
  | .int k, .int k' => Nat.beq (IK k) (IK k')
  | .str, .str => true
  | .unit, .unit => true
  | .pair a b, .pair c d => and (a.beq c) (b.beq d)
  | .st a, .st b => a.beq b
  | .sl a, .sl b => a.beq b
  | .mp a b, .mp c d => and (a.beq c) (b.beq d)
  | .pt a, .pt b => a.beq b
  | _, _ => false
theorem Ty.eq_of_beq : ∀ {a b : Ty}, a.beq b = true → a = b := by
  intro a
  induction a <;> intro b h <;> cases b <;> simp_all [Ty.beq]
  case int.int k k' => cases k <;> cases k' <;> simp_all [IK]
  case pair.pair h1 h2 c d => exact ⟨h1 h.1, h2 h.2⟩
  case st.st h1 _ => exact h1 h
  case sl.sl h1 _ => exact h1 h
  case mp.mp h1 h2 c d => exact ⟨h1 h.1, h2 h.2⟩
  case pt.pt h1 _ => exact h1 h

@[reducible] def El : Ty → Type
  | .bool => Bool | .int _ => Int | .str => ByteArray | .unit => Unit
  | .pair a b => El a × El b | .st r => El r | .sl e => List (El e) | .mp k v => List (El k × El v) | .pt t => Option (El t)
def zeroEl : (t : Ty) → El t
  | .bool => false | .int _ => (0 : Int) | .str => ByteArray.empty | .unit => ()
  | .pair a b => (zeroEl a, zeroEl b) | .st r => zeroEl r | .sl e => ([] : List (El e)) | .mp k v => ([] : List (El k × El v)) | .pt t => (none : Option (El t))
def cast? (t t' : Ty) (x : El t) : Option (El t') :=
  match h : t.beq t' with
  | true => some (Ty.eq_of_beq h ▸ x)
  | false => none
/-- A datum with its type. -/
structure DL where
  t : Ty
  x : El t

def width : Ty → Nat
  | .pair a b => width a + width b
  | .st r => width r
  | .unit => 0
  | _ => 1

/-! ### words on lists, for what is printed -/
/-- An element by Go's index. -/
def idx {α : Type} (xs : List α) (n : Int) : Option α := match decide (0 ≤ n) with | true => xs[n.toNat]? | false => none
/-- xs[lo:hi] of what is there. -/
def cut {α : Type} (xs : List α) (lo hi : Int) : Option (List α) :=
  match and (decide (0 ≤ lo)) (and (decide (lo ≤ hi)) (decide (hi ≤ (xs.length : Int)))) with
  | true => some ((xs.take hi.toNat).drop lo.toNat)
  | false => none
def keyEq : (t : Ty) → El t → El t → Bool
  | .bool, x, y => x == y
  | .int _, x, y => decide (x = y)
  | .str, x, y => x == y
  | .unit, _, _ => true
  | .pair a b, x, y => and (keyEq a x.1 y.1) (keyEq b x.2 y.2)
  | .st r, x, y => keyEq r x y
  | _, _, _ => false
def look {k v : Ty} : List (El k × El v) → El k → Option (El v)
  | [], _ => none
  | (a, b) :: r, x => match keyEq k x a with | true => some b | false => look r x
def upd {k v : Ty} : List (El k × El v) → El k → El v → List (El k × El v)
  | [], x, y => [(x, y)]
  | (a, b) :: r, x, y => match keyEq k x a with | true => (x, y) :: r | false => (a, b) :: upd r x y
/-- The place of a key (behind all: it isn't there). -/
def posOf {k v : Ty} : List (El k × El v) → El k → Nat
  | [], _ => 0
  | (a, _) :: r, x => match keyEq k x a with | true => 0 | false => posOf r x + 1
def setVal {α β : Type} (m : List (α × β)) (j : Nat) (y : β) : List (α × β) := m.modify j fun p => (p.1, y)
def del {k v : Ty} : List (El k × El v) → El k → List (El k × El v)
  | [], _ => []
  | (a, b) :: r, x => match keyEq k x a with | true => r | false => (a, b) :: del r x

/-! ### states -/
abbrev Id := Nat × Nat × Nat
inductive Loc where
  | tmp (t : Nat) | comp (t i : Nat) | box (b : Id) (j : Nat) | om
inductive Leaf (Ω : Type) where
  | dat (t : Ty) (x : El t)
  | nilS | nilM | nilP
  | arr (id : Id) (e : Ty) (xs : List (El e))
  | omp (id : Id) (k v : Ty) (m : List (El k × El v))
  | ref (id : Id) (off n : Nat)
  | ali (l : Loc) (id : Id)
  | avw (l : Loc) (id : Id) (sz : Nat) (lo hi : Int)
  | eptr (t : Ty) (x : El t)
  | aptr (l : Loc) (id : Id) (sz : Nat) (n : Int) (off : Nat)
  | clo (f : Nat) (caps : List (Id × Nat × Nat))
  | fnv
  | ent (l : Loc) (id0 id : Id) (j : Nat)
  | opq (s : Ω)
  | dead
inductive AV (Ω : Type) where
  | one (l : Leaf Ω) | agg (ls : List (Leaf Ω)) | tup (vs : List (Bool × List (Leaf Ω)))
def idB (a b : Id) : Bool := and (Nat.beq a.1 b.1) (and (Nat.beq a.2.1 b.2.1) (Nat.beq a.2.2 b.2.2))
def locB : Loc → Loc → Bool
  | .tmp a, .tmp b => Nat.beq a b
  | .comp a i, .comp b j => and (Nat.beq a b) (Nat.beq i j)
  | .box a i, .box b j => and (idB a b) (Nat.beq i j)
  | .om, .om => true
  | _, _ => false
section
variable {Ω : Type}
abbrev S (Ω : Type) := List (Loc × AV Ω)
def S.get : S Ω → Loc → AV Ω
  | [], _ => .one .dead
  | (a, v) :: r, l => match locB a l with | true => v | false => S.get r l

/-- The leaves of a row. -/
def unpack : (t : Ty) → El t → List (Leaf Ω)
  | .pair a b, x => unpack a x.1 ++ unpack b x.2
  | .st r, x => unpack r x
  | .unit, _ => []
  | t, x => [.dat t x]
def pack : (t : Ty) → List (Leaf Ω) → Option (El t × List (Leaf Ω))
  | .pair a b, ls => (pack a ls).bind fun x => (pack b x.2).bind fun y => some ((x.1, y.1), y.2)
  | .st r, ls => pack r ls
  | .unit, ls => some ((), ls)
  | .sl e, .nilS :: r => some (([] : List (El e)), r)
  | .mp k v, .nilM :: r => some (([] : List (El k × El v)), r)
  | .pt t, .nilP :: r => some ((none : Option (El t)), r)
  | t, .dat t' x :: r => (cast? t' t x).bind fun y => some (y, r)
  | _, _ => none
/-- A whole row. -/
def packAll (t : Ty) (ls : List (Leaf Ω)) : Option (El t) := (pack t ls).bind fun x => match x.2 with | [] => some x.1 | _ => none
def zeroLeaf : Ty → List (Leaf Ω)
  | .pair a b => zeroLeaf a ++ zeroLeaf b
  | .st r => zeroLeaf r
  | .unit => []
  | .sl _ => [.nilS]
  | .mp _ _ => [.nilM]
  | .pt _ => [.nilP]
  | t => [.dat t (zeroEl t)]
def rowB : Ty → Bool | .st _ => true | _ => false

/-! ### the table of types -/
inductive TK where
  | int (k : IntKind) | bool | str | sl (e : Nat) | st (fs : List (Nat × Nat)) | ptr (e : Nat) | mp (k v : Nat) | other
structure TI where
  size : Nat
  kind : TK
  ty : Ty
abbrev Tab := List (Option TI)
def Tab.get : Tab → Nat → Option TI
  | [], _ => none
  | x :: _, 0 => x
  | _ :: r, n + 1 => Tab.get r n
def isSt : TK → Bool | .st _ => true | _ => false

/-! ### small programs over a state: what is read, what is written -/
inductive Prg (Ω : Type) : Type 1 where
  | get (l : Loc) (f : AV Ω → Prg Ω)
  | ite (b : Bool) (t e : Prg Ω)
  | bind {β : Type} (m : Option β) (f : β → Prg Ω)
  | upd (ws : List (Loc × AV Ω)) (p : Prg Ω)
  | done (ws : List (Loc × AV Ω))
  | fail
def Prg.run {R : Type} : Prg Ω → S Ω → List Loc → (List Loc → List (Loc × AV Ω) → Option R) → Option R
  | .get l f, st, rs, k => Prg.run (f (st.get l)) st (l :: rs) k
  | .ite b t e, st, rs, k => match b with | true => Prg.run t st rs k | false => Prg.run e st rs k
  | .bind m f, st, rs, k => m.bind fun y => Prg.run (f y) st rs k
  | .upd ws p, st, rs, k => Prg.run p (ws ++ st) rs fun rs' ws' => k rs' (ws' ++ ws)
  | .done ws, st, rs, k => k rs ws
  | .fail, _, _, _ => none
def Prg.opt {β : Type _} (m : Option β) (f : β → Prg Ω) : Prg Ω := match m with | some y => f y | none => .fail

/-! ### operands -/
def constAV : Value → AV Ω
  | .bool b => .one (.dat .bool b)
  | .int k n => .one (.dat (.int k) n)
  | .string s => .one (.dat .str s)
  | .slice none 0 0 => .one .nilS
  | .map none => .one .nilM
  | .pointer none => .one .nilP
  | _ => .one .dead
def opG (o : Operand) (f : AV Ω → Prg Ω) : Prg Ω :=
  match o with
  | .tmp t => .get (.tmp t) f
  | .const v => f (constAV v)
  | .func n => f (.one (.clo n []))
  | .global _ => .fail
/-- An owned value, looked at as data; other values as they are. -/
def borrow (v : AV Ω) (f : AV Ω → Prg Ω) : Prg Ω :=
  match v with
  | .one (.ali l id) => .get l fun u => match u with
    | .one (.arr id' e xs) => (match idB id id' with | true => f (.one (.dat (.sl e) xs)) | false => .fail)
    | .one (.omp id' a b m) => (match idB id id' with | true => f (.one (.dat (.mp a b) m)) | false => .fail)
    | _ => .fail
  | .one (.avw l id sz lo hi) => .get l fun u => match u with
    | .one (.arr id' e xs) => (match and (idB id id') (Nat.beq sz (width e)) with | true => .bind (cut xs lo hi) fun ys => f (.one (.dat (.sl e) ys)) | false => .fail)
    | _ => .fail
  | .one (.arr _ e xs) => f (.one (.dat (.sl e) xs))
  | .one (.omp _ a b m) => f (.one (.dat (.mp a b) m))
  | v => f v
/-- An owned value becomes data, for good: the state says so from here on. -/
def freeze1 (o : Operand) (v : AV Ω) (f : AV Ω → Prg Ω) : Prg Ω :=
  match v with
  | .one (.ali l id) => .get l fun u => match u with
    | .one (.arr id' e xs) => (match idB id id' with | true => .upd [(l, .one (.dat (.sl e) xs))] (f (.one (.dat (.sl e) xs))) | false => .fail)
    | .one (.omp id' a b m) => (match idB id id' with | true => .upd [(l, .one (.dat (.mp a b) m))] (f (.one (.dat (.mp a b) m))) | false => .fail)
    | _ => .fail
  | .one (.avw l id sz lo hi) => .get l fun u => match u with
    | .one (.arr id' e xs) => (match and (idB id id') (Nat.beq sz (width e)) with | true => .bind (cut xs lo hi) fun ys => .upd [(l, .one (.dat (.sl e) xs))] (f (.one (.dat (.sl e) ys))) | false => .fail)
    | _ => .fail
  | .one (.arr _ e xs) => (match o with | .tmp t => .upd [(.tmp t, .one (.dat (.sl e) xs))] (f (.one (.dat (.sl e) xs))) | _ => .fail)
  | .one (.omp _ a b m) => (match o with | .tmp t => .upd [(.tmp t, .one (.dat (.mp a b) m))] (f (.one (.dat (.mp a b) m))) | _ => .fail)
  | v => f v
def freezeLs : List (Leaf Ω) → (List (Leaf Ω) → Prg Ω) → Prg Ω
  | [], f => f []
  | l :: r, f => freeze1 (.const (.bool true)) (.one l) fun u => match u with | .one l' => freezeLs r fun ls => f (l' :: ls) | _ => .fail
def freeze (o : Operand) (v : AV Ω) (f : AV Ω → Prg Ω) : Prg Ω :=
  match v with
  | .agg ls => freezeLs ls fun us => f (.agg us)
  | .one l => freeze1 o (.one l) f
  | .tup vs => f (.tup vs)
/-- An owned value goes elsewhere: where it stood, nothing is left. 'nid': the id of a part that is taken of it. -/
def takeV (o : Operand) (nid : Id) (v : AV Ω) (f : AV Ω → Prg Ω) : Prg Ω :=
  match v with
  | .one (.ali l id) => .get l fun u => match u with
    | .one (.arr id' e xs) => (match idB id id' with | true => .upd [(l, .one .dead)] (f (.one (.arr id' e xs))) | false => .fail)
    | .one (.omp id' a b m) => (match idB id id' with | true => .upd [(l, .one .dead)] (f (.one (.omp id' a b m))) | false => .fail)
    | _ => .fail
  | .one (.avw l id sz lo hi) => .get l fun u => match u with
    | .one (.arr id' e xs) => (match and (idB id id') (Nat.beq sz (width e)) with | true => .bind (cut xs lo hi) fun ys => .upd [(l, .one .dead)] (f (.one (.arr nid e ys))) | false => .fail)
    | _ => .fail
  | .one (.arr id e xs) => (match o with | .tmp t => .upd [(.tmp t, .one .dead)] (f (.one (.arr id e xs))) | _ => .fail)
  | .one (.omp id a b m) => (match o with | .tmp t => .upd [(.tmp t, .one .dead)] (f (.one (.omp id a b m))) | _ => .fail)
  | v => f v
def leavesOf : AV Ω → List (Leaf Ω) | .one l => [l] | .agg ls => ls | .tup _ => []
def avOf (agg : Bool) (ls : List (Leaf Ω)) : AV Ω :=
  match agg with | true => .agg ls | false => match ls with | [l] => .one l | _ => .one .dead
/-- A copy: an owned value is copied as a look at it. -/
def copyV (o : Operand) (v : AV Ω) : AV Ω :=
  match v, o with
  | .one (.arr id _ _), .tmp t => .one (.ali (.tmp t) id)
  | .one (.omp id _ _ _), .tmp t => .one (.ali (.tmp t) id)
  | v, _ => v
def intOf (v : AV Ω) (f : Int → Prg Ω) : Prg Ω := match v with | .one (.dat (.int _) n) => f n | _ => .fail
def boolOf (v : AV Ω) (f : Bool → Prg Ω) : Prg Ω := match v with | .one (.dat .bool b) => f b | _ => .fail

/-! ### functions by contract -/
inductive LS where
  | dat (t : Ty) | arr (e : Ty) | omp (k v : Ty)
def LS.ty : LS → Ty | .dat t => t | .arr e => .sl e | .omp k v => .mp k v
/-- Parameters: a value; a slice or map that is written (and comes back); a pointer to what stays; a pointer to a variable that is written. -/
inductive PS where
  | v (s : LS) | mu (s : LS) | ep (t : Ty) | bx (ls : List LS) | fn
inductive RS where
  | v (s : LS) | bx (ls : List LS)
def PS.tys : PS → List Ty
  | .v s | .mu s => [s.ty]
  | .ep t => [t]
  | .bx ls => ls.map LS.ty
  | .fn => []
def PS.outs : PS → List Ty
  | .mu s => [s.ty]
  | .bx ls => ls.map LS.ty
  | _ => []
def RS.tys : RS → List Ty
  | .v s => [s.ty]
  | .bx ls => ls.map LS.ty
structure Sig where
  pars : List PS
  res : List RS
@[reducible] def Tup : List Ty → Type
  | [] => Unit
  | t :: ts => El t × Tup ts
@[reducible] def outTy : List Ty → Ty
  | [] => .unit
  | [t] => t
  | t :: ts => .pair t (outTy ts)
def Sig.ins (s : Sig) : List Ty := s.pars.flatMap PS.tys
def Sig.outs (s : Sig) : List Ty := s.res.flatMap RS.tys ++ s.pars.flatMap PS.outs
def scalar : Ty → Bool
  | .bool | .int _ | .str | .unit => true
  | .pair a b => and (scalar a) (scalar b)
  | .st r => scalar r
  | _ => false
def mkTup : (ts : List Ty) → List DL → Option (Tup ts)
  | [], [] => some ()
  | t :: ts, d :: ds => (cast? d.t t d.x).bind fun x => (mkTup ts ds).bind fun r => some (x, r)
  | _, _ => none
def unTup : (ts : List Ty) → Tup ts → List DL
  | [], _ => []
  | t :: ts, x => ⟨t, x.1⟩ :: unTup ts x.2
def mkOut : (ts : List Ty) → List DL → Option (El (outTy ts))
  | [], [] => some ()
  | [t], [d] => cast? d.t t d.x
  | t :: s :: ts, d :: ds => (cast? d.t t d.x).bind fun x => (mkOut (s :: ts) ds).bind fun r => some (x, r)
  | _, _ => none
def unOut : (ts : List Ty) → El (outTy ts) → List DL
  | [], _ => []
  | [t], x => [⟨t, x⟩]
  | t :: s :: ts, x => ⟨t, x.1⟩ :: unOut (s :: ts) x.2
/-- A function's contract, as the evaluator has it. With a closure among its parameters: 'hof'. -/
structure Fun where
  sig : Sig
  f : Tup sig.ins → Option (El (outTy sig.outs))
/-- A function that takes a closure (data in, a datum out): for each state of it. -/
structure Hof where
  sig : Sig
  as : List Ty
  b : Ty
  f : (Ω : Type) → (Ω → Tup as → Option (El b × Ω)) → Ω → Tup sig.ins → Option (El (outTy sig.outs) × Ω)
structure CloG (Ω : Type) where
  as : List Ty
  b : Ty
  g : Ω → Tup as → Option (El b × Ω)
/-- What may be called: functions; functions that take a closure; the closure that came in. -/
structure Env (Ω : Type) where
  funs : List (Nat × Fun)
  hofs : List (Nat × Hof)
  clo : Option (CloG Ω)
end
end Go.Proofs.Ytbgefphoochgcaa.FE
